/-
  graticuleref09.plain, Digits. Bytes that a string is made of. graticuleref09.form. graticuleref09.Quote. graticuleref10.Print of a right value.
-/
import Derived.Test.YtkfgbjjelcigcaaGreatDoorPk9
import Derived.Test.YtkfgbjjelcigcaaGreatDoorPk1
import Derived.Test.YtkfgbjjelcigcaaGreatDoorProg
import Derived.WalkMore
import Derived.Laws.BytesArg
import Derived.Test.YtkfgbjjelcigcaaGreatDoorPk3
import Derived.Test.YtkfgbjjelcigcaaGreatDoorPk16
import Derived.Test.YtkfgbjjelcigcaaGreatDoorPk8
import Derived.Test.YtkfgbjjelcigcaaGreatDoorPk4
import Derived.Test.YtkfgbjjelcigcaaGreatDoorPk5
/- graticuleref09.plain, Digits. -/
set_option linter.unusedVariables false
set_option linter.unusedSimpArgs false
set_option maxRecDepth 100000
namespace Go.Proofs.YtkfgbjjelcigcaaGreatDoor
open Go.RowKit

set_option maxHeartbeats 2000000 in
theorem rplain_any : ∀ (u : Nat), u ≤ 18446744073709551615 → ∀ (w : World),
    Calls Tryz.prog 57 #[.int .u64 (u : Int)] w fun e w' => e = .returned (.string ⟨(Lib.decDigits u).toArray⟩) ∧ w' = w := by
  intro u
  induction u using Nat.strongRecOn with
  | ind u ih =>
    intro hu w; have hd : Lib.decDigits u = if u < 10 then [UInt8.ofNat (48 + u)] else Lib.decDigits (u / 10) ++ [UInt8.ofNat (48 + u % 10)] := by
      rw [Lib.decDigits]; split <;> rfl
    have HD := Lib.hid hd; generalize Lib.decDigits u = D at *; have hx : (⟨#[48, 49, 50, 51, 52, 53, 54, 55, 56, 57]⟩ : ByteArray).extract (u % 10) (u % 10 + 1) = ⟨#[UInt8.ofNat (48 + u % 10)]⟩ := by
      have hm : u % 10 < 10 := Nat.mod_lt _ (by omega); generalize u % 10 = m at *
      rcases (by omega : m = 0 ∨ m = 1 ∨ m = 2 ∨ m = 3 ∨ m = 4 ∨ m = 5 ∨ m = 6 ∨ m = 7 ∨ m = 8 ∨ m = 9) with rfl | rfl | rfl | rfl | rfl | rfl | rfl | rfl | rfl | rfl <;> rfl
    obtain ⟨cc, hcc⟩ : ∃ c, UInt8.ofNat (48 + u % 10) = c := ⟨_, rfl⟩; rw [hcc] at hx; have HCC := Lib.hid hcc; clear hcc; have HX := Lib.hid hx; have hlen := Lib.nDigits_le20 (u / 10) (by omega); rw [← Lib.decDigits_length] at hlen; have HIH := Lib.hid (ih (u / 10)); clear hd hx ih
    go_enter Tryz.func57, Tryz.ntmps57
    by_cases h10 : u < 10
    · have h10' : (u : Int) < 10 := by omega
      go_wp2; refine bodyPost_ret (v := .string ((⟨#[48, 49, 50, 51, 52, 53, 54, 55, 56, 57]⟩ : ByteArray).extract (u % 10) (u % 10 + 1))) (by simp [results, Tryz.results57, go_sem]) rfl ⟨?_, rfl⟩; rw [HX.out, HD.out, if_pos h10, ← HCC.out, show u % 10 = u by omega]
    · have h10' : ¬ (u : Int) < 10 := by omega
      have hih := HIH.out (by omega) (by omega) w; rw [show ((u / 10 : Nat) : Int) = (u : Int) / 10 by omega] at hih; have HI := Lib.hid hih; clear hih HIH
      go_wp2_with fail
      refine HI.out.mono ?_; rintro e w' ⟨rfl, rfl⟩; generalize Lib.decDigits (u / 10) = DD at *; rw [HX.out]; have hl2 : ¬ 9223372036854775807 < DD.length + 1 := by omega
      have hcat : (⟨DD.toArray⟩ : ByteArray) ++ ⟨#[cc]⟩ = ⟨D.toArray⟩ := by
        rw [HD.out, if_neg h10, HCC.out]; apply ByteArray.ext; simp [ByteArray.data_append]
      have HCAT := Lib.hid hcat; clear hcat; go_wp2; refine bodyPost_ret (v := .string (⟨DD.toArray⟩ ++ ⟨#[cc]⟩)) (by simp [results, Tryz.results57, go_sem]) rfl ⟨by rw [HCAT.out], rfl⟩

set_option maxHeartbeats 2000000 in
theorem rdigits_any (n : Int) (h0 : -1152921504606846976 ≤ n) (h1 : n ≤ 1152921504606846976) (w : World) :
    Calls Tryz.prog 37 #[.int .i64 n] w fun e w' => e = .returned (.string ⟨(Lib.itoa n).toArray⟩) ∧ w' = w := by
  have hI : Lib.itoa n = if n < 0 then 45 :: Lib.decDigits n.natAbs else Lib.decDigits n.toNat := rfl; have HI := Lib.hid hI; generalize Lib.itoa n = S at *; clear hI
  go_enter Tryz.func37, Tryz.ntmps37
  by_cases hn : n < 0
  · have hp := rplain_any n.natAbs (by omega) w; rw [show ((n.natAbs : Nat) : Int) = -(n + 1) + 1 by omega] at hp; have HP := Lib.hid hp; clear hp; have hlen := Lib.nDigits_le20 n.natAbs (by omega); rw [← Lib.decDigits_length] at hlen
    go_wp2_with fail
    refine HP.out.mono ?_; rintro e w' ⟨rfl, rfl⟩; generalize Lib.decDigits n.natAbs = DD at *; have hl2 : ¬ 9223372036854775807 < 1 + DD.length := by omega
    have HCAT : Hid ((⟨#[45]⟩ : ByteArray) ++ ⟨DD.toArray⟩ = ⟨S.toArray⟩) := by
      refine Lib.hid ?_; rw [HI.out, if_pos hn]; apply ByteArray.ext; simp [ByteArray.data_append]
    go_wp2; refine bodyPost_ret (v := .string (⟨#[45]⟩ ++ ⟨DD.toArray⟩)) (by simp [results, Tryz.results37, go_sem]) rfl ⟨by rw [HCAT.out], rfl⟩
  · have hp := rplain_any n.toNat (by omega) w; rw [show ((n.toNat : Nat) : Int) = n by omega] at hp; have HP := Lib.hid hp; clear hp; have hnn : 0 ≤ n := by omega
    go_wp2_with fail
    refine HP.out.mono ?_; rintro e w' ⟨rfl, rfl⟩; go_wp2; go_ret; exact ⟨by rw [HI.out, if_neg (by omega)]; rfl, rfl⟩
end Go.Proofs.YtkfgbjjelcigcaaGreatDoor
/- Bytes that a string is made of. -/
namespace Go
open Go.RowKit

theorem run_convert_rd {P : Program} (w : World) (src e dst : TypeId) (hs : P.underlying src = some (.slice e)) (he : P.underlying e = some (.int .u8)) (hd : P.underlying dst = some .string)
    (a : Option Addr) (c : Nat) (xs : List Int) (hr : Rd w a (xs.map (Value.int .u8))) :
    (convert src dst (.slice a xs.length c)).run P w = .ok (.string (strOfNums xs)) w := by
  rcases hr with h | ⟨b, off, rfl, h⟩
  · have : xs = [] := by simpa using h
    subst this; rw [run_convert_bytes_string w src dst e _ _ c hs he hd]
    cases a <;> simp [Conv.bytesToString, loadCells]
    all_goals rfl
  · refine run_convert_bytes_arg w src e hs he b off xs.length c xs rfl (fun i hi => ?_) dst hd; exact h i _ (by simp [List.getD, hi])

theorem strOfNums_inj (xs ys : List Int) (hx : ∀ x ∈ xs, 0 ≤ x ∧ x ≤ 255) (hy : ∀ x ∈ ys, 0 ≤ x ∧ x ≤ 255) (h : strOfNums xs = strOfNums ys) : xs = ys := by
  have h1 : (strOfNums xs).data.toList = (strOfNums ys).data.toList := by rw [h]
  rw [strOfNums_data, strOfNums_data] at h1; clear h
  induction xs generalizing ys with
  | nil => cases ys with
    | nil => rfl
    | cons => simp at h1
  | cons x xs ih => cases ys with
    | nil => simp at h1
    | cons y ys =>
      simp only [List.map_cons, List.cons.injEq] at h1; have a1 := hx x (by simp); have a2 := hy y (by simp); have : x.toNat = y.toNat := by
        have h2 := congrArg UInt8.toNat h1.1; rw [UInt8.toNat_ofNat', UInt8.toNat_ofNat'] at h2; omega
      rw [ih ys (fun z hz => hx z (by simp [hz])) (fun z hz => hy z (by simp [hz])) h1.2, show x = y by omega]
end Go
/- graticuleref09.form. -/
set_option linter.unusedVariables false
set_option linter.unusedSimpArgs false
set_option maxRecDepth 100000
namespace Go
open Go.RowKit
theorem hex_at (k : Nat) (h : k < 16) : ((⟨#[48, 49, 50, 51, 52, 53, 54, 55, 56, 57, 97, 98, 99, 100, 101, 102]⟩ : ByteArray)[k]'(by simpa [ByteArray.size] using h)).toNat = (hexD k).toNat := by
  have : ∀ k : Fin 16, ((⟨#[48, 49, 50, 51, 52, 53, 54, 55, 56, 57, 97, 98, 99, 100, 101, 102]⟩ : ByteArray)[k.val]'(by simp [ByteArray.size])).toNat = (hexD k.val).toNat := by decide +kernel
  exact this ⟨k, h⟩
theorem nums_of (l : List UInt8) : strOfNums (l.map (fun c => (c.toNat : Int))) = ⟨l.toArray⟩ := by
  apply ByteArray.ext; apply Array.ext'; rw [strOfNums_data, List.map_map]; have : l.map ((fun n : Int => UInt8.ofNat n.toNat) ∘ fun c : UInt8 => (c.toNat : Int)) = l.map id := List.map_congr_left (fun c _ => by simp); rw [this, List.map_id]
end Go
namespace Go.Proofs.YtkfgbjjelcigcaaGreatDoor
open Go.RowKit
theorem conv_lit (w : World) (l : List UInt8) (n : Nat) (hn : l.length = n) : (convert 89 9 (.slice (some ⟨w.heap.size, 0, none⟩) n n)).run Tryz.prog (w.alloc (.cells (l.map (fun c => Value.int .u8 (c.toNat : Int))).toArray 5)) = .ok (.string ⟨l.toArray⟩) (w.alloc (.cells (l.map (fun c => Value.int .u8 (c.toNat : Int))).toArray 5)) := by
  have hr := Rd.new w (l.map (fun c => Value.int .u8 (c.toNat : Int))) 5; have h := run_convert_rd (P := Tryz.prog) (w.alloc (.cells (l.map (fun c => Value.int .u8 (c.toNat : Int))).toArray 5)) 89 5 9 Tryz.underlying89 Tryz.underlying5 Tryz.underlying9 (some ⟨w.heap.size, 0, none⟩) n (l.map (fun c => (c.toNat : Int))) (by rw [List.map_map]; exact hr); rw [nums_of, List.length_map, hn] at h; exact h

set_option maxHeartbeats 1600000 in
theorem rform_two (r : Nat) (c : Nat) (h : r = 92 ∧ c = 92 ∨ r = 34 ∧ c = 34 ∨ r = 10 ∧ c = 110 ∨ r = 9 ∧ c = 116) (w : World) :
    Calls Tryz.prog 70 #[.int .i64 (r : Int)] w fun e w' => e = .returned (.string ⟨(formR r).toArray⟩) ∧ Below w.heap.size w w' := by
  have hcv : ∀ l : List UInt8, l.length = 2 → (convert 89 9 (.slice (some ⟨w.heap.size, 0, none⟩) 2 2)).run Tryz.prog (w.alloc (.cells (l.map (fun c => Value.int .u8 (c.toNat : Int))).toArray 5)) = _ := fun l hl => conv_lit w l 2 hl; have HB := Lib.hid (Below.new w)
  go_enter Tryz.func70, Tryz.ntmps70
  rcases h with ⟨rfl, rfl⟩ | ⟨rfl, rfl⟩ | ⟨rfl, rfl⟩ | ⟨rfl, rfl⟩
  · have h1 : (convert 89 9 (.slice (some ⟨w.heap.size, 0, none⟩) 2 2)).run Tryz.prog (w.alloc (.cells #[.int .u8 92, .int .u8 92] 5)) = .ok (.string ⟨#[92, 92]⟩) (w.alloc (.cells #[.int .u8 92, .int .u8 92] 5)) := hcv [92, 92] rfl; clear hcv; go_wp2; go_ret; exact ⟨rfl, HB.out _⟩
  · have h1 : (convert 89 9 (.slice (some ⟨w.heap.size, 0, none⟩) 2 2)).run Tryz.prog (w.alloc (.cells #[.int .u8 92, .int .u8 34] 5)) = .ok (.string ⟨#[92, 34]⟩) (w.alloc (.cells #[.int .u8 92, .int .u8 34] 5)) := hcv [92, 34] rfl; clear hcv; go_wp2; go_ret; exact ⟨rfl, HB.out _⟩
  · have h1 : (convert 89 9 (.slice (some ⟨w.heap.size, 0, none⟩) 2 2)).run Tryz.prog (w.alloc (.cells #[.int .u8 92, .int .u8 110] 5)) = .ok (.string ⟨#[92, 110]⟩) (w.alloc (.cells #[.int .u8 92, .int .u8 110] 5)) := hcv [92, 110] rfl; clear hcv; go_wp2; go_ret; exact ⟨rfl, HB.out _⟩
  · have h1 : (convert 89 9 (.slice (some ⟨w.heap.size, 0, none⟩) 2 2)).run Tryz.prog (w.alloc (.cells #[.int .u8 92, .int .u8 116] 5)) = .ok (.string ⟨#[92, 116]⟩) (w.alloc (.cells #[.int .u8 92, .int .u8 116] 5)) := hcv [92, 116] rfl; clear hcv; go_wp2; go_ret; exact ⟨rfl, HB.out _⟩

set_option maxHeartbeats 1600000 in
theorem rform_any (r : Nat) (hr : r ≤ 255) (w : World) :
    Calls Tryz.prog 70 #[.int .i64 (r : Int)] w fun e w' => e = .returned (.string ⟨(formR r).toArray⟩) ∧ Below w.heap.size w w' := by
  by_cases h1 : r = 92
  · exact rform_two r 92 (.inl ⟨h1, rfl⟩) w
  by_cases h2 : r = 34
  · exact rform_two r 34 (.inr (.inl ⟨h2, rfl⟩)) w
  by_cases h3 : r = 10
  · exact rform_two r 110 (.inr (.inr (.inl ⟨h3, rfl⟩))) w
  by_cases h4 : r = 9
  · exact rform_two r 116 (.inr (.inr (.inr ⟨h4, rfl⟩))) w
  have e1 : ((r : Int) == 92) = false := by rw [beq_eq_false_iff_ne]; omega
  have e2 : ((r : Int) == 34) = false := by rw [beq_eq_false_iff_ne]; omega
  have e3 : ((r : Int) == 10) = false := by rw [beq_eq_false_iff_ne]; omega
  have e4 : ((r : Int) == 9) = false := by rw [beq_eq_false_iff_ne]; omega
  have HB := Lib.hid (Below.new w)
  by_cases h5 : r < 32 ∨ r = 127
  · have hf : Hid (formR r = [92, 120, hexD (r / 16), hexD (r % 16)]) := Lib.hid (by unfold formR; rw [if_neg h1, if_neg h2, if_neg h3, if_neg h4, if_pos h5]); have hk1 : r / 16 < 16 := by omega
    have hk2 : r % 16 < 16 := by omega
    have hx1 := hex_at (r / 16) hk1; have hx2 := hex_at (r % 16) hk2; have t1 : IntKind.i64.wrap ((r : Int) / 16) = ((r / 16 : Nat) : Int) := by
      rw [IntWalk.i64_in _ (by omega)]; omega
    have t2 : (r : Int).tmod 16 = ((r % 16 : Nat) : Int) := by
      rw [Int.tmod_eq_emod_of_nonneg (by omega)]; omega
    have l3 : ((r / 16 : Nat) : Int) < 16 := by omega
    have l4 : ((r % 16 : Nat) : Int) < 16 := by omega
    have hcv := Lib.hid (fun w => conv_lit w [92, 120, hexD (r / 16), hexD (r % 16)] 4 rfl); generalize formR r = F at *; generalize hexD (r / 16) = d1 at *; generalize hexD (r % 16) = d2 at *; generalize r / 16 = k1 at *; generalize r % 16 = k2 at *
    go_enter Tryz.func70, Tryz.ntmps70
    by_cases h6 : r < 32
    · have l1 : (r : Int) < 32 := by omega
      go_wp2; refine wp_region_lit_txt [0, 1, 2, 3, 4, 5] (fun _ => True) (by kernel_rfl) (by kernel_rfl) (by kernel_rfl) trivial ?_
      iterate 6 ((refine txt_light ?_ rfl rfl ?_ ?_; rotate_left; · (intro w' hS; (try dsimp only at hS); go_simp; with_reducible rfl)); try simp only [Act.put, List.setIfInBounds_toArray, List.set_cons_zero, List.set_cons_succ])
      have hb1 := (Below.refl w.heap.size w).drew; have hs1 : w.heap.size ≤ w.drew.heap.size := Nat.le_refl _; generalize w.drew = w1 at *; have h1 : (convert 89 9 (.slice (some ⟨w1.heap.size, 0, none⟩) 4 4)).run Tryz.prog (w1.alloc (.cells #[.int .u8 92, .int .u8 120, .int .u8 (d1.toNat : Int), .int .u8 (d2.toNat : Int)] 5)) = .ok (.string ⟨#[92, 120, d1, d2]⟩) (w1.alloc (.cells #[.int .u8 92, .int .u8 120, .int .u8 (d1.toNat : Int), .int .u8 (d2.toNat : Int)] 5)) := hcv.out w1; refine txt_heavy rfl rfl (fun K hK => ?_); go_step; refine hK.out _ _ trivial ?_; clear hK K
      try simp only [Act.put, List.setIfInBounds_toArray, List.set_cons_zero, List.set_cons_succ]
      refine txt_heavy rfl rfl (fun K hK => ?_); go_step; refine hK.out _ _ trivial ?_; clear hK K
      try simp only [Act.put, List.setIfInBounds_toArray, List.set_cons_zero, List.set_cons_succ]
      refine txt_heavy rfl rfl (fun K hK => ?_); go_step; refine hK.out _ _ trivial ?_; clear hK K
      try simp only [Act.put, List.setIfInBounds_toArray, List.set_cons_zero, List.set_cons_succ]
      refine txt_nil ?_; go_wp2; go_ret; exact ⟨(congrArg (fun F : List UInt8 => Ending.returned (.string ⟨F.toArray⟩)) hf.out).symm, hb1.alloc hs1 _⟩
    · have l1 : ¬ (r : Int) < 32 := by omega
      have l2 : ((r : Int) == 127) = true := by rw [beq_iff_eq]; omega
      go_wp2; refine wp_region_lit_txt [0, 1, 2, 3, 4, 5] (fun _ => True) (by kernel_rfl) (by kernel_rfl) (by kernel_rfl) trivial ?_
      iterate 6 ((refine txt_light ?_ rfl rfl ?_ ?_; rotate_left; · (intro w' hS; (try dsimp only at hS); go_simp; with_reducible rfl)); try simp only [Act.put, List.setIfInBounds_toArray, List.set_cons_zero, List.set_cons_succ])
      have hb1 := (Below.refl w.heap.size w).drew; have hs1 : w.heap.size ≤ w.drew.heap.size := Nat.le_refl _; generalize w.drew = w1 at *; have h1 : (convert 89 9 (.slice (some ⟨w1.heap.size, 0, none⟩) 4 4)).run Tryz.prog (w1.alloc (.cells #[.int .u8 92, .int .u8 120, .int .u8 (d1.toNat : Int), .int .u8 (d2.toNat : Int)] 5)) = .ok (.string ⟨#[92, 120, d1, d2]⟩) (w1.alloc (.cells #[.int .u8 92, .int .u8 120, .int .u8 (d1.toNat : Int), .int .u8 (d2.toNat : Int)] 5)) := hcv.out w1; refine txt_heavy rfl rfl (fun K hK => ?_); go_step; refine hK.out _ _ trivial ?_; clear hK K
      try simp only [Act.put, List.setIfInBounds_toArray, List.set_cons_zero, List.set_cons_succ]
      refine txt_heavy rfl rfl (fun K hK => ?_); go_step; refine hK.out _ _ trivial ?_; clear hK K
      try simp only [Act.put, List.setIfInBounds_toArray, List.set_cons_zero, List.set_cons_succ]
      refine txt_heavy rfl rfl (fun K hK => ?_); go_step; refine hK.out _ _ trivial ?_; clear hK K
      try simp only [Act.put, List.setIfInBounds_toArray, List.set_cons_zero, List.set_cons_succ]
      refine txt_nil ?_; go_wp2; go_ret; exact ⟨(congrArg (fun F : List UInt8 => Ending.returned (.string ⟨F.toArray⟩)) hf.out).symm, hb1.alloc hs1 _⟩
  · have hf : Hid (formR r = []) := Lib.hid (by unfold formR; rw [if_neg h1, if_neg h2, if_neg h3, if_neg h4, if_neg h5]); have l1 : ¬ (r : Int) < 32 := by omega
    have l2 : ((r : Int) == 127) = false := by rw [beq_eq_false_iff_ne]; omega
    generalize formR r = F at *
    go_enter Tryz.func70, Tryz.ntmps70
    go_wp2; go_ret; exact ⟨(congrArg (fun F : List UInt8 => Ending.returned (.string ⟨F.toArray⟩)) hf.out).symm, Below.refl _ _⟩
end Go.Proofs.YtkfgbjjelcigcaaGreatDoor
/- graticuleref09.Quote. -/
set_option linter.unusedVariables false
set_option linter.unusedSimpArgs false
set_option maxRecDepth 100000
namespace Go.Proofs.YtkfgbjjelcigcaaGreatDoor
open Go.RowKit

set_option maxHeartbeats 1600000 in
theorem rquote_any (s : ByteArray) (hs : s.size ≤ 100000) (w : World) :
    Calls Tryz.prog 58 #[.string s] w fun e w' => e = .returned (.string ⟨(rquoteF s).toArray⟩) ∧ Below w.heap.size w w' := by
  have hQ : Hid (∀ q : ByteArray, q.data.toList = rquoteF s → q = ⟨(rquoteF s).toArray⟩) := Lib.hid (fun q h => by
    apply ByteArray.ext; rw [← h])
  have hR : Hid (rquoteF s = (34 :: s.data.toList.flatMap formB) ++ [34]) := Lib.hid rfl; generalize rquoteF s = Q at *; have hcv := Lib.hid (fun w => conv_lit w [34] 1 rfl); have hl : s.data.toList.length = s.size := Array.length_toList; have h0 : (convert 89 9 (.slice (some ⟨w.heap.size, 0, none⟩) 1 1)).run Tryz.prog (w.alloc (.cells #[.int .u8 34] 5)) = .ok (.string ⟨#[34]⟩) (w.alloc (.cells #[.int .u8 34] 5)) := hcv.out w; have hb0 := Below.new w (.cells #[.int .u8 34] 5)
  go_enter Tryz.func58, Tryz.ntmps58
  go_wp2
  go_loopw [3, 4] (fun o i wr => ∃ (k : Nat) (q : ByteArray), o = .string q ∧ i = .int .i64 (k : Int) ∧ k ≤ s.size ∧ q.size ≤ 1 + 4 * k ∧ Hid (q.data.toList = 34 :: (s.data.toList.take k).flatMap formB) ∧ Below w.heap.size w wr) (fun _ i _ => s.size - (intOf i).toNat)
  case atStart => exact ⟨0, ⟨#[34]⟩, rfl, rfl, by omega, by simp [ByteArray.size], Lib.hid rfl, hb0⟩
  case round =>
    clear h0 hb0; obtain ⟨k, q, rfl, rfl, hk, hq, HQ, hb⟩ := hrel
    by_cases hp : k < s.size
    · have hpi : (k : Int) < (s.size : Int) := by omega
      have hpi2 : (k : Int) ≤ (s.size : Int) := by omega
      have hpi3 : (k : Int) + 1 ≤ (s.size : Int) := by omega
      have hg := byt_get hp; have hbl := byt_lt s k; have hf := rform_any (byt s k) (by omega); have hfl := formR_len (byt s k); have hB : Hid (formB (s.get! k) = if formR (byt s k) = [] then [s.get! k] else formR (byt s k)) := Lib.hid rfl; have hone := bts_one s k hp; have hst := Lib.hid (take_flat s k hp); generalize byt s k = c at *; generalize formR c = F at *; have HF := Lib.hid hf; clear hf
      go_wp2_with fail
      refine (HF.out _).mono ?_; rintro e w1 ⟨rfl, hb1⟩; have hb2 := hb.trans (hb1.mono hb.size)
      by_cases hF0 : F = []
      · subst hF0; have hte : (⟨([] : List UInt8).toArray⟩ : ByteArray).toList.isEmpty = true := by rw [empty_dec]; rfl
        have hx := hB.out; rw [if_pos rfl] at hx; have hes : (s.extract k (k + 1)).size = 1 := by rw [ByteArray.size_extract]; omega
        obtain ⟨E, hE⟩ : ∃ E, s.extract k (k + 1) = E := ⟨_, rfl⟩; rw [hE] at hone hes; have hl4 : ¬ 9223372036854775807 < q.size + E.size := by omega
        have hqs : (q ++ E).size = q.size + E.size := ByteArray.size_append; have HQ2 : Hid ((q ++ E).data.toList = 34 :: (s.data.toList.take (k + 1)).flatMap formB) := Lib.hid (by
          rw [ByteArray.data_append, Array.toList_append, HQ.out, hone, hst.out, hx]; rfl)
        clear HF hB hst hone hx; go_wp2; go_roundw
        case rel => exact ⟨k + 1, q ++ E, rfl, val_int (by omega), by omega, by rw [hqs]; omega, HQ2, hb2⟩
        case measure => simp [intOf]; omega
      · have hte : F.isEmpty = false := by simpa using hF0
        have hx := hB.out; rw [if_neg hF0] at hx; have hes : (⟨F.toArray⟩ : ByteArray).size = F.length := by simp [ByteArray.size]
        have hl4 : ¬ 9223372036854775807 < q.size + F.length := by omega
        have hqs : (q ++ ⟨F.toArray⟩).size = q.size + (⟨F.toArray⟩ : ByteArray).size := ByteArray.size_append; have HQ2 : Hid ((q ++ ⟨F.toArray⟩).data.toList = 34 :: (s.data.toList.take (k + 1)).flatMap formB) := Lib.hid (by
          rw [ByteArray.data_append, Array.toList_append, HQ.out, hst.out, hx]; rfl)
        clear HF hB hst hone hx; go_wp2; go_roundw
        case rel => exact ⟨k + 1, q ++ ⟨F.toArray⟩, rfl, val_int (by omega), by omega, by rw [hqs]; omega, HQ2, hb2⟩
        case measure => simp [intOf]; omega
    · have hke : k = s.size := by omega
      subst hke; have h1 : (convert 89 9 (.slice (some ⟨wr.heap.size, 0, none⟩) 1 1)).run Tryz.prog (wr.alloc (.cells #[.int .u8 34] 5)) = .ok (.string ⟨#[34]⟩) (wr.alloc (.cells #[.int .u8 34] 5)) := hcv.out wr; have hl4 : ¬ 9223372036854775807 < q.size + 1 := by omega
      have hq2 : Hid (q ++ ⟨#[34]⟩ = ⟨Q.toArray⟩) := Lib.hid (hQ.out _ (by
        rw [ByteArray.data_append, Array.toList_append, HQ.out, hR.out, List.take_of_length_le (Nat.le_of_eq hl)]))
      have hbe := hb.alloc hb.size (.cells #[.int .u8 34] 5); clear HQ hQ hR hcv; go_wp2; go_ret; exact ⟨congrArg (fun x => Ending.returned (.string x)) hq2.out, hbe⟩
end Go.Proofs.YtkfgbjjelcigcaaGreatDoor
/- graticuleref10.Print of a right value. -/
set_option linter.unusedVariables false
set_option linter.unusedSimpArgs false
set_option maxRecDepth 100000
namespace Go.Proofs.YtkfgbjjelcigcaaGreatDoor
open Go.RowKit

set_option maxHeartbeats 4000000 in
theorem rprint_good (v : VV) (hE : vE v = 0) (w : World) :
    Calls Tryz.prog 38 #[vVal v] w fun e w' => e = .returned (.string (prnF v)) ∧ Below w.heap.size w w' := by
  have hz := vE_zero v hE; have hri := vE_right v hE; obtain ⟨k, t, n⟩ := v; dsimp only at hz hri; dsimp only [vVal]; have hb0 := Below.new w (.cells #[.int .i64 k, .string t, .int .i64 n] 48); have k0 := Blk.lit w w.heap.size [.int .i64 k, .string t, .int .i64 n] 48 rfl; have x0 := k0.cell 0 rfl; have x1 := k0.cell 1 rfl; have x2 := k0.cell 2 rfl; have HP := Lib.hid (prnF.eq_1 (k, t, n)); dsimp only at HP; generalize prnF (k, t, n) = PV at *; clear hE k0
  go_enter Tryz.func38, Tryz.ntmps38
  rcases hz with ⟨rfl, rfl, h3⟩ | ⟨rfl, rfl, h3, h4⟩ | ⟨rfl, rfl, h3, h4⟩ | ⟨rfl, rfl, h3, h4⟩
  · have HQ := Lib.hid (fun W => rquote_any t (by omega) W); have HR := Lib.hid (hri rfl)
    go_wp2_with fail
    refine (HQ.out _).mono ?_; rintro e w2 ⟨rfl, hb2⟩; have hbz := hb0.trans (hb2.mono hb0.size); rw [rquote_eq t HR.out]; clear hb2; go_wp2; refine bodyPost_ret (v := .string ⟨(quoteF t).toArray⟩) (by simp [results, Tryz.results38, go_sem]) rfl ⟨by rw [HP.out]; simp, hbz⟩
  · go_wp2_with fail
    refine (rdigits_any n (by omega) (by omega) _).mono ?_; rintro e w2 ⟨rfl, rfl⟩; have hlen : ¬ 9223372036854775807 < 1 + (Lib.itoa n).length := by have := Lib.itoa_length_le n (by omega) (by omega); omega
    go_wp2; refine bodyPost_ret (v := .string (⟨#[117]⟩ ++ ⟨(Lib.itoa n).toArray⟩)) (by simp [results, Tryz.results38, go_sem]) rfl ⟨by rw [HP.out]; simp, hb0⟩
  · by_cases hn : n < 0
    · go_wp2_with fail
      refine (rdigits_any n (by omega) (by omega) _).mono ?_; rintro e w2 ⟨rfl, rfl⟩; go_wp2; refine bodyPost_ret (v := .string ⟨(Lib.itoa n).toArray⟩) (by simp [results, Tryz.results38, go_sem]) rfl ⟨by rw [HP.out]; simp; try (intro h; exfalso; omega), hb0⟩
    · go_wp2_with fail
      refine (rdigits_any n (by omega) (by omega) _).mono ?_; rintro e w2 ⟨rfl, rfl⟩; have hlen : ¬ 9223372036854775807 < 1 + (Lib.itoa n).length := by have := Lib.itoa_length_le n (by omega) (by omega); omega
      have hnn : 0 ≤ n := by omega
      go_wp2; refine bodyPost_ret (v := .string (⟨#[43]⟩ ++ ⟨(Lib.itoa n).toArray⟩)) (by simp [results, Tryz.results38, go_sem]) rfl ⟨by rw [HP.out]; simp [hnn], hb0⟩
  · rcases (by omega : n = 0 ∨ n = 1) with rfl | rfl
    · go_wp2; refine bodyPost_ret (v := .string ⟨#[110, 111]⟩) (by simp [results, Tryz.results38, go_sem]) rfl ⟨by rw [HP.out]; simp, hb0⟩
    · go_wp2; refine bodyPost_ret (v := .string ⟨#[121, 101, 115]⟩) (by simp [results, Tryz.results38, go_sem]) rfl ⟨by rw [HP.out]; simp, hb0⟩
end Go.Proofs.YtkfgbjjelcigcaaGreatDoor
