/-
  graticuleref09.form.
-/
import Derived.Test.YtbjiamakchklpaaTform
import Derived.Test.YtbjiamakchklpaaTfirst
import Derived.Test.YtbjiamakchklpaaStr
import Derived.Test.YtbjiamakchklpaaReg
set_option linter.unusedVariables false
set_option linter.unusedSimpArgs false
set_option maxRecDepth 100000
namespace Go
open Go.RowKit
theorem hex_at (k : Nat) (h : k < 16) : ((⟨#[48, 49, 50, 51, 52, 53, 54, 55, 56, 57, 97, 98, 99, 100, 101, 102]⟩ : ByteArray)[k]'(by simpa [ByteArray.size] using h)).toNat = (hexD k).toNat := by
  have : ∀ k : Fin 16, ((⟨#[48, 49, 50, 51, 52, 53, 54, 55, 56, 57, 97, 98, 99, 100, 101, 102]⟩ : ByteArray)[k.val]'(by simp [ByteArray.size])).toNat = (hexD k.val).toNat := by decide +kernel
  exact this ⟨k, h⟩
theorem nums_of (l : List UInt8) : strOfNums (l.map (fun c => (c.toNat : Int))) = ⟨l.toArray⟩ := by
  apply ByteArray.ext
  apply Array.ext'
  rw [strOfNums_data, List.map_map]
  have : l.map ((fun n : Int => UInt8.ofNat n.toNat) ∘ fun c : UInt8 => (c.toNat : Int)) = l.map id := List.map_congr_left (fun c _ => by simp)
  rw [this, List.map_id]
end Go
namespace Go.Proofs.Ytbjiamakchklpaa
open Go.RowKit
/-- string([]byte{..}): the literal lies at the heap's end. -/
theorem conv_lit (w : World) (l : List UInt8) (n : Nat) (hn : l.length = n) : (convert 53 9 (.slice (some ⟨w.heap.size, 0, none⟩) n n)).run Try.prog (w.alloc (.cells (l.map (fun c => Value.int .u8 (c.toNat : Int))).toArray 5)) = .ok (.string ⟨l.toArray⟩) (w.alloc (.cells (l.map (fun c => Value.int .u8 (c.toNat : Int))).toArray 5)) := by
  have hr := Rd.new w (l.map (fun c => Value.int .u8 (c.toNat : Int))) 5
  have h := run_convert_rd (P := Try.prog) (w.alloc (.cells (l.map (fun c => Value.int .u8 (c.toNat : Int))).toArray 5)) 53 5 9 Try.underlying53 Try.underlying5 Try.underlying9 (some ⟨w.heap.size, 0, none⟩) n (l.map (fun c => (c.toNat : Int))) (by rw [List.map_map]; exact hr)
  rw [nums_of, List.length_map, hn] at h
  exact h

set_option maxHeartbeats 1600000 in
theorem rform_two (r : Nat) (c : Nat) (h : r = 92 ∧ c = 92 ∨ r = 34 ∧ c = 34 ∨ r = 10 ∧ c = 110 ∨ r = 9 ∧ c = 116) (w : World) :
    Calls Try.prog 26 #[.int .i64 (r : Int)] w fun e w' => e = .returned (.string ⟨(formR r).toArray⟩) ∧ Below w.heap.size w w' := by
  have hcv : ∀ l : List UInt8, l.length = 2 → (convert 53 9 (.slice (some ⟨w.heap.size, 0, none⟩) 2 2)).run Try.prog (w.alloc (.cells (l.map (fun c => Value.int .u8 (c.toNat : Int))).toArray 5)) = _ := fun l hl => conv_lit w l 2 hl
  have HB := Lib.hid (Below.new w)
  go_enter Try.func26, Try.ntmps26
  rcases h with ⟨rfl, rfl⟩ | ⟨rfl, rfl⟩ | ⟨rfl, rfl⟩ | ⟨rfl, rfl⟩
  · have h1 : (convert 53 9 (.slice (some ⟨w.heap.size, 0, none⟩) 2 2)).run Try.prog (w.alloc (.cells #[.int .u8 92, .int .u8 92] 5)) = .ok (.string ⟨#[92, 92]⟩) (w.alloc (.cells #[.int .u8 92, .int .u8 92] 5)) := hcv [92, 92] rfl
    clear hcv
    go_wp2
    go_ret
    exact ⟨rfl, HB.out _⟩
  · have h1 : (convert 53 9 (.slice (some ⟨w.heap.size, 0, none⟩) 2 2)).run Try.prog (w.alloc (.cells #[.int .u8 92, .int .u8 34] 5)) = .ok (.string ⟨#[92, 34]⟩) (w.alloc (.cells #[.int .u8 92, .int .u8 34] 5)) := hcv [92, 34] rfl
    clear hcv
    go_wp2
    go_ret
    exact ⟨rfl, HB.out _⟩
  · have h1 : (convert 53 9 (.slice (some ⟨w.heap.size, 0, none⟩) 2 2)).run Try.prog (w.alloc (.cells #[.int .u8 92, .int .u8 110] 5)) = .ok (.string ⟨#[92, 110]⟩) (w.alloc (.cells #[.int .u8 92, .int .u8 110] 5)) := hcv [92, 110] rfl
    clear hcv
    go_wp2
    go_ret
    exact ⟨rfl, HB.out _⟩
  · have h1 : (convert 53 9 (.slice (some ⟨w.heap.size, 0, none⟩) 2 2)).run Try.prog (w.alloc (.cells #[.int .u8 92, .int .u8 116] 5)) = .ok (.string ⟨#[92, 116]⟩) (w.alloc (.cells #[.int .u8 92, .int .u8 116] 5)) := hcv [92, 116] rfl
    clear hcv
    go_wp2
    go_ret
    exact ⟨rfl, HB.out _⟩

set_option maxHeartbeats 1600000 in
theorem rform_any (r : Nat) (hr : r ≤ 255) (w : World) :
    Calls Try.prog 26 #[.int .i64 (r : Int)] w fun e w' => e = .returned (.string ⟨(formR r).toArray⟩) ∧ Below w.heap.size w w' := by
  by_cases h1 : r = 92
  · exact rform_two r 92 (.inl ⟨h1, rfl⟩) w
  by_cases h2 : r = 34
  · exact rform_two r 34 (.inr (.inl ⟨h2, rfl⟩)) w
  by_cases h3 : r = 10
  · exact rform_two r 110 (.inr (.inr (.inl ⟨h3, rfl⟩))) w
  by_cases h4 : r = 9
  · exact rform_two r 116 (.inr (.inr (.inr ⟨h4, rfl⟩))) w
  have e1 : ((r : Int) == 92) = false := by rw [beq_eq_false_iff_ne]; omega
  have e2 : ((r : Int) == 34) = false := by rw [beq_eq_false_iff_ne]; omega
  have e3 : ((r : Int) == 10) = false := by rw [beq_eq_false_iff_ne]; omega
  have e4 : ((r : Int) == 9) = false := by rw [beq_eq_false_iff_ne]; omega
  have HB := Lib.hid (Below.new w)
  by_cases h5 : r < 32 ∨ r = 127
  · have hf : Hid (formR r = [92, 120, hexD (r / 16), hexD (r % 16)]) := Lib.hid (by unfold formR; rw [if_neg h1, if_neg h2, if_neg h3, if_neg h4, if_pos h5])
    have hk1 : r / 16 < 16 := by omega
    have hk2 : r % 16 < 16 := by omega
    have hx1 := hex_at (r / 16) hk1
    have hx2 := hex_at (r % 16) hk2
    have t1 : IntKind.i64.wrap ((r : Int) / 16) = ((r / 16 : Nat) : Int) := by
      rw [IntWalk.i64_in _ (by omega)]; omega
    have t2 : (r : Int).tmod 16 = ((r % 16 : Nat) : Int) := by
      rw [Int.tmod_eq_emod_of_nonneg (by omega)]; omega
    have l3 : ((r / 16 : Nat) : Int) < 16 := by omega
    have l4 : ((r % 16 : Nat) : Int) < 16 := by omega
    have hcv := Lib.hid (fun w => conv_lit w [92, 120, hexD (r / 16), hexD (r % 16)] 4 rfl)
    generalize formR r = F at *
    generalize hexD (r / 16) = d1 at *
    generalize hexD (r % 16) = d2 at *
    generalize r / 16 = k1 at *
    generalize r % 16 = k2 at *
    go_enter Try.func26, Try.ntmps26
    by_cases h6 : r < 32
    · have l1 : (r : Int) < 32 := by omega
      go_wp2
      refine wp_region_lit_txt [0, 1, 2, 3, 4, 5] (fun _ => True) (by kernel_rfl) (by kernel_rfl) (by kernel_rfl) trivial ?_
      (refine txt_light ?_ rfl rfl ?_ ?_; rotate_left; · (intro w' hS; (try dsimp only at hS); go_simp; with_reducible rfl)); try simp only [Act.put, List.setIfInBounds_toArray, List.set_cons_zero, List.set_cons_succ]
      (refine txt_light ?_ rfl rfl ?_ ?_; rotate_left; · (intro w' hS; (try dsimp only at hS); go_simp; with_reducible rfl)); try simp only [Act.put, List.setIfInBounds_toArray, List.set_cons_zero, List.set_cons_succ]
      (refine txt_light ?_ rfl rfl ?_ ?_; rotate_left; · (intro w' hS; (try dsimp only at hS); go_simp; with_reducible rfl)); try simp only [Act.put, List.setIfInBounds_toArray, List.set_cons_zero, List.set_cons_succ]
      (refine txt_light ?_ rfl rfl ?_ ?_; rotate_left; · (intro w' hS; (try dsimp only at hS); go_simp; with_reducible rfl)); try simp only [Act.put, List.setIfInBounds_toArray, List.set_cons_zero, List.set_cons_succ]
      (refine txt_light ?_ rfl rfl ?_ ?_; rotate_left; · (intro w' hS; (try dsimp only at hS); go_simp; with_reducible rfl)); try simp only [Act.put, List.setIfInBounds_toArray, List.set_cons_zero, List.set_cons_succ]
      (refine txt_light ?_ rfl rfl ?_ ?_; rotate_left; · (intro w' hS; (try dsimp only at hS); go_simp; with_reducible rfl)); try simp only [Act.put, List.setIfInBounds_toArray, List.set_cons_zero, List.set_cons_succ]
      have hb1 := (Below.refl w.heap.size w).drew
      have hs1 : w.heap.size ≤ w.drew.heap.size := Nat.le_refl _
      generalize w.drew = w1 at *
      have h1 : (convert 53 9 (.slice (some ⟨w1.heap.size, 0, none⟩) 4 4)).run Try.prog (w1.alloc (.cells #[.int .u8 92, .int .u8 120, .int .u8 (d1.toNat : Int), .int .u8 (d2.toNat : Int)] 5)) = .ok (.string ⟨#[92, 120, d1, d2]⟩) (w1.alloc (.cells #[.int .u8 92, .int .u8 120, .int .u8 (d1.toNat : Int), .int .u8 (d2.toNat : Int)] 5)) := hcv.out w1
      refine txt_heavy rfl rfl (fun K hK => ?_)
      go_step
      refine hK.out _ _ trivial ?_
      clear hK K
      try simp only [Act.put, List.setIfInBounds_toArray, List.set_cons_zero, List.set_cons_succ]
      refine txt_heavy rfl rfl (fun K hK => ?_)
      go_step
      refine hK.out _ _ trivial ?_
      clear hK K
      try simp only [Act.put, List.setIfInBounds_toArray, List.set_cons_zero, List.set_cons_succ]
      refine txt_heavy rfl rfl (fun K hK => ?_)
      go_step
      refine hK.out _ _ trivial ?_
      clear hK K
      try simp only [Act.put, List.setIfInBounds_toArray, List.set_cons_zero, List.set_cons_succ]
      refine txt_nil ?_
      go_wp2
      go_ret
      exact ⟨(congrArg (fun F : List UInt8 => Ending.returned (.string ⟨F.toArray⟩)) hf.out).symm, hb1.alloc hs1 _⟩
    · have l1 : ¬ (r : Int) < 32 := by omega
      have l2 : ((r : Int) == 127) = true := by rw [beq_iff_eq]; omega
      go_wp2
      refine wp_region_lit_txt [0, 1, 2, 3, 4, 5] (fun _ => True) (by kernel_rfl) (by kernel_rfl) (by kernel_rfl) trivial ?_
      (refine txt_light ?_ rfl rfl ?_ ?_; rotate_left; · (intro w' hS; (try dsimp only at hS); go_simp; with_reducible rfl)); try simp only [Act.put, List.setIfInBounds_toArray, List.set_cons_zero, List.set_cons_succ]
      (refine txt_light ?_ rfl rfl ?_ ?_; rotate_left; · (intro w' hS; (try dsimp only at hS); go_simp; with_reducible rfl)); try simp only [Act.put, List.setIfInBounds_toArray, List.set_cons_zero, List.set_cons_succ]
      (refine txt_light ?_ rfl rfl ?_ ?_; rotate_left; · (intro w' hS; (try dsimp only at hS); go_simp; with_reducible rfl)); try simp only [Act.put, List.setIfInBounds_toArray, List.set_cons_zero, List.set_cons_succ]
      (refine txt_light ?_ rfl rfl ?_ ?_; rotate_left; · (intro w' hS; (try dsimp only at hS); go_simp; with_reducible rfl)); try simp only [Act.put, List.setIfInBounds_toArray, List.set_cons_zero, List.set_cons_succ]
      (refine txt_light ?_ rfl rfl ?_ ?_; rotate_left; · (intro w' hS; (try dsimp only at hS); go_simp; with_reducible rfl)); try simp only [Act.put, List.setIfInBounds_toArray, List.set_cons_zero, List.set_cons_succ]
      (refine txt_light ?_ rfl rfl ?_ ?_; rotate_left; · (intro w' hS; (try dsimp only at hS); go_simp; with_reducible rfl)); try simp only [Act.put, List.setIfInBounds_toArray, List.set_cons_zero, List.set_cons_succ]
      have hb1 := (Below.refl w.heap.size w).drew
      have hs1 : w.heap.size ≤ w.drew.heap.size := Nat.le_refl _
      generalize w.drew = w1 at *
      have h1 : (convert 53 9 (.slice (some ⟨w1.heap.size, 0, none⟩) 4 4)).run Try.prog (w1.alloc (.cells #[.int .u8 92, .int .u8 120, .int .u8 (d1.toNat : Int), .int .u8 (d2.toNat : Int)] 5)) = .ok (.string ⟨#[92, 120, d1, d2]⟩) (w1.alloc (.cells #[.int .u8 92, .int .u8 120, .int .u8 (d1.toNat : Int), .int .u8 (d2.toNat : Int)] 5)) := hcv.out w1
      refine txt_heavy rfl rfl (fun K hK => ?_)
      go_step
      refine hK.out _ _ trivial ?_
      clear hK K
      try simp only [Act.put, List.setIfInBounds_toArray, List.set_cons_zero, List.set_cons_succ]
      refine txt_heavy rfl rfl (fun K hK => ?_)
      go_step
      refine hK.out _ _ trivial ?_
      clear hK K
      try simp only [Act.put, List.setIfInBounds_toArray, List.set_cons_zero, List.set_cons_succ]
      refine txt_heavy rfl rfl (fun K hK => ?_)
      go_step
      refine hK.out _ _ trivial ?_
      clear hK K
      try simp only [Act.put, List.setIfInBounds_toArray, List.set_cons_zero, List.set_cons_succ]
      refine txt_nil ?_
      go_wp2
      go_ret
      exact ⟨(congrArg (fun F : List UInt8 => Ending.returned (.string ⟨F.toArray⟩)) hf.out).symm, hb1.alloc hs1 _⟩
  · have hf : Hid (formR r = []) := Lib.hid (by unfold formR; rw [if_neg h1, if_neg h2, if_neg h3, if_neg h4, if_neg h5])
    have l1 : ¬ (r : Int) < 32 := by omega
    have l2 : ((r : Int) == 127) = false := by rw [beq_eq_false_iff_ne]; omega
    generalize formR r = F at *
    go_enter Try.func26, Try.ntmps26
    go_wp2
    go_ret
    exact ⟨(congrArg (fun F : List UInt8 => Ending.returned (.string ⟨F.toArray⟩)) hf.out).symm, Below.refl _ _⟩
end Go.Proofs.Ytbjiamakchklpaa
