/-
  value.Bytes. value.Less; the order that it tells. graticuleref10.Less. Owned rows of several cells an element, written in place. Opening a law's arguments: a slice whose elements have several cells (structs), or are slices themselves, as 'Rd'. A call of a function value, inside a region that draws its order.
-/
import Derived.Test.YtinogphhbbaobaaDoorPk7
import Derived.Test.YtinogphhbbaobaaDoorPk8
import Derived.Test.YtinogphhbbaobaaDoorPk1
import Derived.Deep.Slices
import Derived.Test.YtinogphhbbaobaaDoorPk3
/- value.Bytes. -/
set_option linter.unusedVariables false
set_option linter.unusedSimpArgs false
set_option maxRecDepth 100000
namespace Go
open Go.RowKit Go.Proto Go.Vint
def vFld (v : VV) : Fld := if v.1 = 1 then ⟨1, 2, 0, bnums v.2.1⟩ else if v.1 = 2 then ⟨5, 0, v.2.2, []⟩ else if v.1 = 3 then ⟨6, 0, zig v.2.2, []⟩ else ⟨7, 0, v.2.2, []⟩
def vE (v : VV) : Int := vcF v.1 v.2.1 v.2.2
def vby (v : VV) : List Int := if vE v = 0 then fby (vFld v) else []
theorem vE_zero (v : VV) (h : vE v = 0) : (v.1 = 1 ∧ v.2.2 = 0 ∧ v.2.1.size ≤ 64) ∨ (v.1 = 2 ∧ v.2.1 = ⟨#[]⟩ ∧ 0 ≤ v.2.2 ∧ v.2.2 ≤ 1152921504606846976) ∨ (v.1 = 3 ∧ v.2.1 = ⟨#[]⟩ ∧ -1152921504606846976 ≤ v.2.2 ∧ v.2.2 ≤ 1152921504606846976) ∨ (v.1 = 4 ∧ v.2.1 = ⟨#[]⟩ ∧ 0 ≤ v.2.2 ∧ v.2.2 ≤ 1) := by
  obtain ⟨k, t, n⟩ := v; unfold vE vcF at h; dsimp only at h ⊢; have ht : t.size = 0 → t = ⟨#[]⟩ := fun h => by
    apply ByteArray.ext; exact Array.eq_empty_of_size_eq_zero h
  split at h
  · split at h
    · omega
    · split at h
      · omega
      · split at h <;> first | (exfalso; omega) | (left; omega)
  · split at h
    · split at h
      · omega
      · split at h
        · omega
        · right; right; left; exact ⟨by omega, ht (by omega), by omega, by omega⟩
    · split at h
      · split at h
        · omega
        · split at h
          · omega
          · right; left; exact ⟨by omega, ht (by omega), by omega, by omega⟩
      · split at h
        · split at h
          · omega
          · split at h
            · omega
            · right; right; right; exact ⟨by omega, ht (by omega), by omega, by omega⟩
        · omega
theorem vFld_ok (v : VV) (h : vE v = 0) : chk (vFld v) = 0 ∧ 0 ≤ (vFld v).n ∧ (vFld v).n ≤ 18446744073709551615 ∧ (∀ x ∈ (vFld v).bs, 0 ≤ x ∧ x ≤ 255) ∧ (vFld v).bs.length ≤ 64 := by
  obtain ⟨k, t, n⟩ := v
  rcases vE_zero _ h with ⟨a, b, c⟩ | ⟨a, b, c, d⟩ | ⟨a, b, c, d⟩ | ⟨a, b, c, d⟩ <;> (dsimp only at a b c; subst a; simp only [vFld])
  · simp only [if_true]; exact ⟨by simp [chk], by omega, by omega, bnums_bd t, by rw [bnums_len]; exact c⟩
  · simp only [Int.reduceEq, if_false, if_true]; exact ⟨by simp [chk], c, by dsimp only at d; omega, by simp, by simp⟩
  · simp only [Int.reduceEq, if_false, if_true]; have := zig_bd n (by omega) (by dsimp only at d; omega); exact ⟨by simp [chk], this.1, this.2, by simp, by simp⟩
  · simp only [Int.reduceEq, if_false]; exact ⟨by simp [chk], c, by dsimp only at d; omega, by simp, by simp⟩
end Go
namespace Go.Proofs.YtinogphhbbaobaaDoor
open Go.RowKit Go.Vint Go.Proto

set_option maxHeartbeats 4000000 in
theorem valbytes_any (v : VV) (ht : v.2.1.size ≤ maxLen) (w : World) :
    Calls Tryd.prog 7 #[vVal v] w fun e w' => ∃ x, e = .returned (.tuple #[x, .int .i64 (vE v)]) ∧ w'.ownsRow w.heap.size 5 1 x (vby v).length ((vby v).map (Value.int .u8)) ∧ Below w.heap.size w w' := by
  obtain ⟨k, t, n⟩ := v; have HZ := Lib.hid (vE_zero (k, t, n)); have HO := Lib.hid (vFld_ok (k, t, n)); have HVB := Lib.hid (vby.eq_1 (k, t, n)); have HF : Hid (vFld (k, t, n) = _) := Lib.hid (vFld.eq_1 (k, t, n)); obtain ⟨FL, hFL⟩ : ∃ FL, vFld (k, t, n) = FL := ⟨_, rfl⟩; have HCK := Lib.hid (fun W => vchk_any k n t ht W); obtain ⟨E, hE⟩ : ∃ E, vE (k, t, n) = E := ⟨_, rfl⟩; have hE2 : vcF k t n = E := hE; rw [hE2] at HCK; rw [hE, hFL] at HVB; rw [hE] at HO HZ; rw [hFL] at HO HF; rw [hE]; dsimp only [vVal] at *; obtain ⟨VB, hVB⟩ : ∃ VB, vby (k, t, n) = VB := ⟨_, rfl⟩; rw [hVB] at HVB ⊢; clear hE hE2 hFL hVB; have hb0 := Below.new w (.cells #[.int .i64 k, .string t, .int .i64 n] 23); have k0 := Blk.lit w w.heap.size [.int .i64 k, .string t, .int .i64 n] 23 rfl; obtain ⟨B, hB⟩ : ∃ B, w.heap.size = B := ⟨_, rfl⟩; rw [hB] at k0; have HBE := Lib.hid hB
  go_enter Tryd.func7, Tryd.ntmps7
  go_wp2_with fail
  refine (HCK.out _).mono ?_; rintro e w1 ⟨rfl, hb1⟩; have k1 := k0.keep hb1; have hbw := hb0.trans (hb1.mono hb0.size); have x0 := k1.cell 0 rfl; have x1 := k1.cell 1 rfl; have x2 := k1.cell 2 rfl; clear k0 hb1 hb0 HCK
  by_cases hE : E = 0
  · subst hE; obtain ⟨o1, o2, o3, o4, o5⟩ := HO.out rfl; have hVB := HVB.out; rw [if_pos rfl] at hVB; have HVB2 := Lib.hid hVB; clear hVB HVB; have hpw : pwr [FL] = (fby FL, 0) := by
      rw [pwr_ok _ (by intro f hf; obtain rfl := List.mem_singleton.1 hf; exact o1)]; simp
    rw [← HVB2.out] at hpw; have HPW := Lib.hid hpw; have HW : Hid (∀ W p c, Rd W p (FL.bs.map (Value.int .u8)) → FL.bs.length ≤ c → c ≤ maxLen → (p = none → c = 0) → Calls Tryd.prog 9 #[.slice (some ⟨W.heap.size, 0, none⟩) 1 1] (W.alloc (.cells #[.int .i64 FL.num, .int .i64 FL.kind, .int .u64 FL.n, .slice p FL.bs.length c] 33)) fun e w' => ∃ x, e = .returned (.tuple #[x, .int .i64 0]) ∧ w'.ownsRow (W.heap.size + 1) 5 1 x VB.length (VB.map (Value.int .u8)) ∧ Below W.heap.size W w') := by
      refine Lib.hid fun W p c h1 h2 h3 h4 => ?_; have hbn := Below.new W (.cells #[.int .i64 FL.num, .int .i64 FL.kind, .int .u64 FL.n, .slice p FL.bs.length c] 33); have h := pwrite_any (some ⟨W.heap.size, 0, none⟩) 1 [⟨FL, p, c⟩] (by intro x hx; obtain rfl := List.mem_singleton.1 hx; exact ⟨o4, o2, o3, by dsimp only; omega⟩) (by simp) _ (Rd.new W (flat [⟨FL, p, c⟩]) 33) (by intro x hx; obtain rfl := List.mem_singleton.1 hx; exact ⟨h1.keep hbn, h2, h3, h4⟩); simp only [List.map_cons, List.map_nil, HPW.out] at h; refine h.mono ?_; rintro e w' ⟨x, rfl, hown, hb⟩; exact ⟨x, rfl, by simpa using hown, hbn.trans (hb.mono (by simp))⟩
    clear o1 o2 o3 o4 o5 hpw HPW HO; have hs1 := hbw.size
    by_cases h1 : k = 1
    · subst h1; have hF := HF.out; simp only [if_true] at hF; subst hF; obtain ⟨c2, w2, hcv, hr2, hb2, hc1, hc2⟩ := conv_sb (P := Tryd.prog) w1 9 25 5 Tryd.underlying9 Tryd.underlying25 Tryd.underlying5 t; have hw := HW.out w2 (some ⟨w1.heap.size, 0, none⟩) c2 hr2 (by rw [bnums_len]; exact hc1) (hc2 ht) (by simp); rw [bnums_len] at hw; have HW2 := Lib.hid hw; clear hw HW; have hbw2 := hbw.trans (hb2.mono hs1)
      go_wp2_with fail
      refine HW2.out.mono ?_; rintro e w3 ⟨x, rfl, hown, hb3⟩; have hbw3 := hbw2.trans (hb3.mono hbw2.size); have hown3 : w3.ownsRow w.heap.size _ _ _ _ _ := hown.mono (by have := hbw2.size; omega); clear HW2 hown hb3; go_wp2; refine bodyPost_ret (v := .tuple #[x, .int .i64 0]) (by simp [results, Tryd.results7, go_sem]) rfl ⟨x, rfl, ?_, ?_⟩
      · first | exact hown3 | (rw [← HBE.out]; exact hown3)
      · first | exact hbw3 | (rw [← HBE.out]; exact hbw3)
    · have e1 : (k == 1) = false := by simpa using h1
      have hz := HZ.out rfl
      try dsimp only at hz
      by_cases h2 : k = 2
      · subst h2; have hF := HF.out; simp only [Int.reduceEq, if_false, if_true] at hF; subst hF; have hn0 : 0 ≤ n := by omega
        have hn1 : n ≤ 1152921504606846976 := by omega
        clear hz; have hw := HW.out w1 none 0 (Rd.nil _ _) (by simp) (by simp [maxLen]) (by simp); dsimp only [List.length_nil] at hw; have HW2 := Lib.hid hw; clear hw HW
        go_wp2_with fail
        refine HW2.out.mono ?_; rintro e w3 ⟨x, rfl, hown, hb3⟩; have hbw3 := hbw.trans (hb3.mono hs1); have hown3 : w3.ownsRow w.heap.size _ _ _ _ _ := hown.mono (by omega); clear HW2 hown hb3; go_wp2; refine bodyPost_ret (v := .tuple #[x, .int .i64 0]) (by simp [results, Tryd.results7, go_sem]) rfl ⟨x, rfl, ?_, ?_⟩
        · first | exact hown3 | (rw [← HBE.out]; exact hown3)
        · first | exact hbw3 | (rw [← HBE.out]; exact hbw3)
      · have e2 : (k == 2) = false := by simpa using h2
        by_cases h3 : k = 3
        · subst h3; have hF := HF.out; simp only [Int.reduceEq, if_false, if_true] at hF; subst hF; have hn0 : -1152921504606846976 ≤ n := by omega
          have hn1 : n ≤ 1152921504606846976 := by omega
          clear hz; have hw := HW.out w1 none 0 (Rd.nil _ _) (by simp) (by simp [maxLen]) (by simp); dsimp only [List.length_nil] at hw; have HW2 := Lib.hid hw; clear hw HW
          go_wp2_with fail
          refine (vzig_any n (by omega) (by omega) _).mono ?_; rintro e w2 ⟨rfl, rfl⟩
          go_wp2_with fail
          refine HW2.out.mono ?_; rintro e w3 ⟨x, rfl, hown, hb3⟩; have hbw3 := hbw.trans (hb3.mono hs1); have hown3 : w3.ownsRow w.heap.size _ _ _ _ _ := hown.mono (by omega); clear HW2 hown hb3; go_wp2; refine bodyPost_ret (v := .tuple #[x, .int .i64 0]) (by simp [results, Tryd.results7, go_sem]) rfl ⟨x, rfl, ?_, ?_⟩
          · first | exact hown3 | (rw [← HBE.out]; exact hown3)
          · first | exact hbw3 | (rw [← HBE.out]; exact hbw3)
        · have e3 : (k == 3) = false := by simpa using h3
          obtain rfl : k = 4 := by omega
          have hF := HF.out; simp only [Int.reduceEq, if_false, if_true] at hF; subst hF; have hn0 : 0 ≤ n := by omega
          have hn1 : n ≤ 1 := by omega
          clear hz; have hw := HW.out w1 none 0 (Rd.nil _ _) (by simp) (by simp [maxLen]) (by simp); dsimp only [List.length_nil] at hw; have HW2 := Lib.hid hw; clear hw HW
          go_wp2_with fail
          refine HW2.out.mono ?_; rintro e w3 ⟨x, rfl, hown, hb3⟩; have hbw3 := hbw.trans (hb3.mono hs1); have hown3 : w3.ownsRow w.heap.size _ _ _ _ _ := hown.mono (by omega); clear HW2 hown hb3; go_wp2; refine bodyPost_ret (v := .tuple #[x, .int .i64 0]) (by simp [results, Tryd.results7, go_sem]) rfl ⟨x, rfl, ?_, ?_⟩
          · first | exact hown3 | (rw [← HBE.out]; exact hown3)
          · first | exact hbw3 | (rw [← HBE.out]; exact hbw3)
  · have hE' : (E != 0) = true := by simpa using hE
    have hVB := HVB.out; rw [if_neg hE] at hVB; have HVB2 := Lib.hid hVB; clear hVB HVB; go_wp2; refine bodyPost_ret (v := .tuple #[.slice none 0 0, .int .i64 E]) (by simp [results, Tryd.results7, go_sem]) rfl ⟨_, rfl, ?_, ?_⟩
    · rw [HVB2.out]; exact World.ownsRow_nil _ _ _ _
    · first | exact hbw | (rw [← HBE.out]; exact hbw)
end Go.Proofs.YtinogphhbbaobaaDoor
/- value.Less; the order that it tells. -/
set_option linter.unusedVariables false
set_option linter.unusedSimpArgs false
set_option maxRecDepth 100000
namespace Go
open Go.RowKit
theorem bl_irrefl : ∀ l : List UInt8, Op.bytesLess l l = false
  | [] => rfl
  | a :: l => by
    have := bl_irrefl l; simp [Op.bytesLess, this]
theorem bl_trans : ∀ a b c : List UInt8, Op.bytesLess a b = true → Op.bytesLess b c = true → Op.bytesLess a c = true
  | _, [], _, h, _ => by simp [Op.bytesLess] at h
  | [], _ :: _, [], _, h => by simp [Op.bytesLess] at h
  | [], _ :: _, _ :: _, _, _ => rfl
  | _ :: _, _ :: _, [], _, h => by simp [Op.bytesLess] at h
  | a :: x, b :: y, c :: z, h, g => by
    simp only [Op.bytesLess, Bool.or_eq_true, Bool.and_eq_true, decide_eq_true_eq, beq_iff_eq] at h g ⊢
    rcases h with h | ⟨rfl, h⟩
    · rcases g with g | ⟨rfl, g⟩
      · exact .inl (UInt8.lt_trans h g)
      · exact .inl h
    · rcases g with g | ⟨rfl, g⟩
      · exact .inl g
      · exact .inr ⟨rfl, bl_trans x y z h g⟩
theorem bl_total : ∀ a b : List UInt8, Op.bytesLess a b = true ∨ a = b ∨ Op.bytesLess b a = true
  | [], [] => .inr (.inl rfl)
  | [], _ :: _ => .inl rfl
  | _ :: _, [] => .inr (.inr rfl)
  | a :: x, b :: y => by
    simp only [Op.bytesLess, Bool.or_eq_true, Bool.and_eq_true, decide_eq_true_eq, beq_iff_eq]
    rcases (by
      rcases Nat.lt_trichotomy a.toNat b.toNat with h | h | h
      · exact .inl h
      · exact .inr (.inl (UInt8.toNat_inj.1 h))
      · exact .inr (.inr h) : a < b ∨ a = b ∨ b < a) with h | rfl | h
    · exact .inl (.inl h)
    · rcases bl_total x y with g | rfl | g
      · exact .inl (.inr ⟨rfl, g⟩)
      · exact .inr (.inl rfl)
      · exact .inr (.inr (.inr ⟨rfl, g⟩))
    · exact .inr (.inr (.inl h))
def lessV (a b : VV) : Bool := if a.1 = b.1 then (if a.1 = 1 then Op.bytesLess a.2.1.toList b.2.1.toList else decide (a.2.2 < b.2.2)) else decide (a.1 < b.1)
theorem lessV_irrefl (a : VV) : lessV a a = false := by
  unfold lessV; rw [if_pos rfl]
  split
  · exact bl_irrefl _
  · simp
theorem lessV_trans {a b c : VV} (h : lessV a b = true) (g : lessV b c = true) : lessV a c = true := by
  unfold lessV at h g ⊢
  by_cases h1 : a.1 = b.1
  · by_cases h2 : b.1 = c.1
    · rw [if_pos h1] at h; rw [if_pos h2] at g; rw [if_pos (h1.trans h2)]
      by_cases h3 : a.1 = 1
      · rw [if_pos h3] at h ⊢; rw [if_pos (h1 ▸ h3)] at g; exact bl_trans _ _ _ h g
      · rw [if_neg h3] at h ⊢; rw [if_neg (h1 ▸ h3)] at g; simp only [decide_eq_true_eq] at h g ⊢; omega
    · rw [if_neg h2] at g; rw [if_neg (by rw [h1]; exact h2), h1]; exact g
  · rw [if_neg h1] at h
    by_cases h2 : b.1 = c.1
    · rw [if_neg (by rw [← h2]; exact h1), ← h2]; exact h
    · rw [if_neg h2] at g; simp only [decide_eq_true_eq] at h g; rw [if_neg (by omega)]; simp; omega
theorem lessV_neg {a b c : VV} (h : lessV a b = false) (g : lessV b c = false) : lessV a c = false := by
  unfold lessV at h g ⊢
  by_cases h1 : a.1 = b.1
  · by_cases h2 : b.1 = c.1
    · rw [if_pos h1] at h; rw [if_pos h2] at g; rw [if_pos (h1.trans h2)]
      by_cases h3 : a.1 = 1
      · rw [if_pos h3] at h ⊢; rw [if_pos (h1 ▸ h3)] at g
        cases hc : Op.bytesLess a.2.1.toList c.2.1.toList with
        | false => rfl
        | true =>
          rcases bl_total a.2.1.toList b.2.1.toList with e | e | e
          · rw [e] at h; cases h
          · rw [e] at hc; rw [hc] at g; cases g
          · rw [bl_trans _ _ _ e hc] at g; cases g
      · rw [if_neg h3] at h ⊢; rw [if_neg (h1 ▸ h3)] at g; simp only [decide_eq_false_iff_not] at h g ⊢; omega
    · rw [if_neg h2] at g; rw [if_neg (by rw [h1]; exact h2), h1]; exact g
  · rw [if_neg h1] at h
    by_cases h2 : b.1 = c.1
    · rw [if_neg (by rw [← h2]; exact h1), ← h2]; exact h
    · rw [if_neg h2] at g; simp only [decide_eq_false_iff_not] at h g; rw [if_neg (by omega)]; simp; omega
theorem lessV_asym {a b : VV} (h : lessV a b = true) : lessV b a = false := by
  cases g : lessV b a with
  | false => rfl
  | true =>
    have := lessV_trans h g; rw [lessV_irrefl] at this
    cases this
end Go
namespace Go.Proofs.YtinogphhbbaobaaDoor
open Go.RowKit
set_option maxHeartbeats 3200000 in
theorem vless_any (a b : VV) (w : World) :
    Calls Tryd.prog 11 #[vVal a, vVal b] w fun e w' => e = .returned (.bool (lessV a b)) ∧ Below w.heap.size w w' := by
  have hL := lessV.eq_1 a b; obtain ⟨LV, hLV⟩ : ∃ x, lessV a b = x := ⟨_, rfl⟩; rw [hLV] at hL ⊢; obtain ⟨k1, t1, n1⟩ := a; obtain ⟨k2, t2, n2⟩ := b; dsimp only at hL; have HL := Lib.hid hL; clear hLV hL; dsimp only [vVal]; have k0 := (Blk.lit w w.heap.size [.int .i64 k1, .string t1, .int .i64 n1] 23 rfl).alloc (.cells #[.int .i64 k2, .string t2, .int .i64 n2] 23); have k9 := Blk.lit (w.alloc (.cells #[.int .i64 k1, .string t1, .int .i64 n1] 23)) (w.heap.size + 1) [.int .i64 k2, .string t2, .int .i64 n2] 23 (by simp); have HB := Lib.hid (fun X Y => (Below.new w X).alloc (by simp) Y)
  go_enter Tryd.func11, Tryd.ntmps11
  have x0 := k0.cell 0 rfl; have x1 := k0.cell 1 rfl; have x2 := k0.cell 2 rfl; have y0 := k9.cell 0 rfl; have y1 := k9.cell 1 rfl; have y2 := k9.cell 2 rfl
  by_cases hk : k1 = k2
  · subst hk
    by_cases h1 : k1 = 1
    · subst h1; have HL2 : Hid (LV = Op.bytesLess t1.toList t2.toList) := Lib.hid (by rw [HL.out, if_pos rfl, if_pos rfl]); clear HL; go_wp2
      all_goals go_ret
      all_goals (refine ⟨ret_bool ?_, HB.out _ _⟩; rw [HL2.out]; try (first | rfl | simp_all [bl_irrefl]))
    · have HL2 : Hid (LV = decide (n1 < n2)) := Lib.hid (by rw [HL.out, if_pos rfl, if_neg h1]); clear HL; go_wp2
      all_goals go_ret
      all_goals (refine ⟨ret_bool ?_, HB.out _ _⟩; rw [HL2.out]; try (first | rfl | simp_all))
  · have hk' : ((k1 : Int) == k2) = false := by simpa using hk
    have hk2 : (k1 != k2) = true := by simp [hk]
    have HL2 : Hid (LV = decide (k1 < k2)) := Lib.hid (by rw [HL.out, if_neg hk]); clear HL; go_wp2
    all_goals go_ret
    all_goals (refine ⟨ret_bool ?_, HB.out _ _⟩; rw [HL2.out])
end Go.Proofs.YtinogphhbbaobaaDoor
/- graticuleref10.Less. -/
set_option linter.unusedVariables false
set_option linter.unusedSimpArgs false
set_option maxRecDepth 100000
namespace Go.Proofs.YtinogphhbbaobaaDoor
open Go.RowKit
set_option maxHeartbeats 3200000 in
theorem rless_any (a b : VV) (w : World) :
    Calls Tryd.prog 12 #[vVal a, vVal b] w fun e w' => e = .returned (.bool (lessV a b)) ∧ Below w.heap.size w w' := by
  have hL := lessV.eq_1 a b; obtain ⟨LV, hLV⟩ : ∃ x, lessV a b = x := ⟨_, rfl⟩; rw [hLV] at hL ⊢; obtain ⟨k1, t1, n1⟩ := a; obtain ⟨k2, t2, n2⟩ := b; dsimp only at hL; have HL := Lib.hid hL; clear hLV hL; dsimp only [vVal]; have k0 := (Blk.lit w w.heap.size [.int .i64 k1, .string t1, .int .i64 n1] 39 rfl).alloc (.cells #[.int .i64 k2, .string t2, .int .i64 n2] 39); have k9 := Blk.lit (w.alloc (.cells #[.int .i64 k1, .string t1, .int .i64 n1] 39)) (w.heap.size + 1) [.int .i64 k2, .string t2, .int .i64 n2] 39 (by simp); have HB := Lib.hid (fun X Y => (Below.new w X).alloc (by simp) Y)
  go_enter Tryd.func12, Tryd.ntmps12
  have x0 := k0.cell 0 rfl; have x1 := k0.cell 1 rfl; have x2 := k0.cell 2 rfl; have y0 := k9.cell 0 rfl; have y1 := k9.cell 1 rfl; have y2 := k9.cell 2 rfl
  by_cases hk : k1 = k2
  · subst hk
    by_cases h1 : k1 = 1
    · subst h1; have HL2 : Hid (LV = Op.bytesLess t1.toList t2.toList) := Lib.hid (by rw [HL.out, if_pos rfl, if_pos rfl]); clear HL; go_wp2
      all_goals go_ret
      all_goals (refine ⟨ret_bool ?_, HB.out _ _⟩; rw [HL2.out]; try (first | rfl | simp_all [bl_irrefl]))
    · have HL2 : Hid (LV = decide (n1 < n2)) := Lib.hid (by rw [HL.out, if_pos rfl, if_neg h1]); clear HL; go_wp2
      all_goals go_ret
      all_goals (refine ⟨ret_bool ?_, HB.out _ _⟩; rw [HL2.out]; try (first | rfl | simp_all))
  · have hk' : ((k1 : Int) == k2) = false := by simpa using hk
    have hk2 : (k1 != k2) = true := by simp [hk]
    have HL2 : Hid (LV = decide (k1 < k2)) := Lib.hid (by rw [HL.out, if_neg hk]); clear HL; go_wp2
    all_goals go_ret
    all_goals (refine ⟨ret_bool ?_, HB.out _ _⟩; rw [HL2.out])
end Go.Proofs.YtinogphhbbaobaaDoor
/- Owned rows of several cells an element, written in place. -/
set_option linter.unusedVariables false
set_option linter.unusedSimpArgs false
namespace Go
open Go.RowKit

theorem ownsRow_cur {W : World} {base g c n s : Nat} {e : TypeId} {xs : List Value} (h : W.ownsRow base e s (.slice (some ⟨g, 0, none⟩) n c) n xs) :
    ∃ cur : Array Value, W.heap[g]? = some (.cells cur e (0, 0)) ∧ n ≤ c ∧ c ≤ maxLen ∧ cur.size = c * s ∧ cur.toList.take (n * s) = xs ∧ xs.length = n * s ∧ base ≤ g := by
  obtain ⟨h1, h2⟩ := h
  rcases h2 with ⟨hv, _⟩ | ⟨g', cap, cur, hv, hb, hg, h3, h4, h5, h6⟩
  · cases hv
  · cases hv
    exact ⟨cur, hg, h3, h4, h5, h6, h1, hb⟩

theorem ownsRow_setS {W : World} {base g c n s i : Nat} {e : TypeId} {xs : List Value} (h : W.ownsRow base e s (.slice (some ⟨g, 0, none⟩) n c) n xs) (u : Value) :
    (W.setCell ⟨g, i, none⟩ u).ownsRow base e s (.slice (some ⟨g, 0, none⟩) n c) n (xs.set i u) := by
  obtain ⟨cur, hg, h3, h4, h5, h6, h1, hb⟩ := ownsRow_cur h; refine ⟨by simpa using h1, .inr ⟨g, c, cur.setIfInBounds i u, rfl, hb, ?_, h3, h4, by simpa using h5, ?_⟩⟩
  · show (W.setCell ⟨g, i, none⟩ u).heap[g]? = _; simp [World.setCell, Array.getElem?_modify, hg]
  · rw [← h6]; simp [List.take_set]

theorem ownsRow_cellS {W : World} {base g c n s i : Nat} {e : TypeId} {xs : List Value} (h : W.ownsRow base e s (.slice (some ⟨g, 0, none⟩) n c) n xs) {v : Value} (hv : xs[i]? = some v) :
    W.cell? ⟨g, i, none⟩ = some v ∧ W.frozen? ⟨g, i, none⟩ = false ∧ g < W.heap.size := by
  obtain ⟨cur, hg, h3, h4, h5, h6, h1, hb⟩ := ownsRow_cur h; refine ⟨?_, by simp [World.frozen?, hg], (Array.getElem?_eq_some_iff.1 hg).1⟩; rw [cell_of_row W g i cur e (0, 0) hg]; rw [← h6, List.getElem?_take] at hv
  split at hv
  · simpa using hv
  · cases hv

structure Cu where
  x : Int
  y : Int
  p : Int
  w : Int
instance : Inhabited Cu := ⟨⟨0, 0, 0, 0⟩⟩
def Cu.cells (c : Cu) : List Value := [.int .i64 c.x, .int .i64 c.y, .int .i64 c.p, .int .i64 c.w]
def Cu.val (c : Cu) : Value := .agg #[.int .i64 c.x, .int .i64 c.y, .int .i64 c.p, .int .i64 c.w]
def cus (l : List Cu) : List Value := l.flatMap Cu.cells
def cmpC (a b : Cu) : Int := a.p * b.w - b.p * a.w
def CuOk (c : Cu) : Prop := (0 ≤ c.p ∧ c.p ≤ 67108864) ∧ (1 ≤ c.w ∧ c.w ≤ 67108864)
end Go
/- Opening a law's arguments: a slice whose elements have several cells (structs), or are slices themselves, as 'Rd'. -/
namespace Go
open Go.ChangeShapes Go.WideShapes Go.ChangeAt Go.RowKit Go.Deep

theorem flatMap_len {α β : Type} (f : α → List β) (m : Nat) (hf : ∀ x, (f x).length = m) (xs : List α) : (xs.flatMap f).length = xs.length * m := by
  induction xs with
  | nil => simp
  | cons x xs ih => rw [List.flatMap_cons, List.length_append, hf, ih, List.length_cons, Nat.succ_mul]; omega

theorem flatMap_get {α β : Type} (f : α → List β) (m : Nat) (hf : ∀ x, (f x).length = m) (xs : List α) (i j : Nat) (hi : i < xs.length) (hj : j < m) : (xs.flatMap f)[i * m + j]? = (f xs[i])[j]? := by
  induction xs generalizing i with
  | nil => simp at hi
  | cons x xs ih =>
    rw [List.flatMap_cons]
    cases i with
    | zero => rw [List.getElem?_append_left (by rw [hf]; omega), Nat.zero_mul, Nat.zero_add, List.getElem_cons_zero]
    | succ i =>
      rw [List.getElem?_append_right (by rw [hf, Nat.succ_mul]; omega), List.getElem_cons_succ, hf, ← ih i (by simpa using hi)]
      congr 1
      rw [Nat.succ_mul]; omega

theorem open_flat {α : Type} [Inhabited α] {H : Type} {enc : TypeId × Value → H} {P : Program} {W : World} {base : Nat} {spare : Nat → Bool} {t e : TypeId} {fuel : Nat} {a : Option Addr} {len cap : Nat} {x : DataW H × List MemPlace} {held : Bool}
    (m : Nat) (hm0 : 0 < m) (cells : α → List Value) (Good : α → Prop) (hcl : ∀ y, (cells y).length = m)
    (ht : P.underlying t = some (.slice e)) (hc : P.cellsOf e = m)
    (one : ∀ n cs' z, cs'.length = m → DataW.trod enc P W base spare held n e cs' = some z → ∃ y, cs' = cells y ∧ Good y)
    (h : DataW.trod enc P W base spare held fuel t [.slice a len cap] = some x) :
    ∃ xs : List α, len = xs.length ∧ len ≤ cap ∧ cap ≤ maxLen ∧ (a = none → cap = 0) ∧ Rd W a (xs.flatMap cells) ∧ ∀ y ∈ xs, Good y := by
  rcases open_slice ht h with ⟨hcs, _⟩ | ⟨ad, l, c, k, n, D, Pl, hcs, hb, hl, hmx, hk, _, hx⟩
  · simp at hcs; obtain ⟨rfl, rfl, rfl⟩ := hcs; exact ⟨[], rfl, Nat.le_refl _, by simp [maxLen], fun _ => rfl, .inl rfl, by simp⟩
  · simp at hcs; obtain ⟨rfl, rfl, rfl⟩ := hcs; have hlk : len ≤ k := by rw [hk]; split <;> omega
    have each : ∀ i, i < len → ∃ y : α, Good y ∧ ∀ j v, (cells y)[j]? = some v → W.cell? ((ad.add (i * m)).add j) = some v := by
      intro i hi; obtain ⟨cs', h1, h2⟩ := hx i (by omega); rw [hc] at h1; obtain ⟨_, hlen, hcell⟩ := World.cells?_some h1; obtain ⟨y, rfl, hg⟩ := one _ _ _ hlen h2; refine ⟨y, hg, fun j v hv => ?_⟩; rw [hcell j (by have := (List.getElem?_eq_some_iff.1 hv).1; rw [hcl] at this; exact this)]; exact hv
    obtain ⟨y, hy⟩ := choose_lt each; refine ⟨(List.range len).map y, by simp, hl, hmx, fun h => (by cases h), ?_, ?_⟩
    · by_cases h0 : len = 0
      · subst h0; exact .inl rfl
      · obtain ⟨v0, hv0⟩ : ∃ v, (cells (y 0))[0]? = some v := ⟨_, List.getElem?_eq_getElem (by rw [hcl]; exact hm0)⟩; have hs := cell_spot ((hy 0 (by omega)).2 0 v0 hv0); have hs' : ad.spot = none := by simpa [Addr.add] using hs
        obtain ⟨b, off, sp⟩ := ad; simp only at hs'; subst hs'; refine .inr ⟨b, off, rfl, fun p v hv => ?_⟩; have hp : p < len * m := by
          have := (List.getElem?_eq_some_iff.1 hv).1
          rwa [flatMap_len cells m hcl, List.length_map, List.length_range] at this
        have hi : p / m < len := Nat.div_lt_of_lt_mul (by rw [Nat.mul_comm]; exact hp); have hj : p % m < m := Nat.mod_lt _ hm0; have hpe : p / m * m + p % m = p := Nat.div_add_mod' p m; rw [← hpe, flatMap_get cells m hcl _ _ _ (by simpa using hi) hj] at hv; simp only [List.getElem_map, List.getElem_range] at hv; have := (hy _ hi).2 _ _ hv; rw [add_add, hpe] at this; unfold Addr.add at this
        split at this
        · subst_vars; simpa using this
        · simpa using this
    · intro z hz; obtain ⟨i, hi, rfl⟩ := List.mem_map.1 hz; exact (hy i (List.mem_range.1 hi)).1
end Go
/- A call of a function value, inside a region that draws its order. -/
set_option linter.unusedVariables false
set_option linter.unusedSimpArgs false
namespace Go
open Go.RowKit
section
variable {P : Program} {ops : Array Oper} {lt : Nat → Bool} {Q : Exit → Act → World → Prop} {S : World → Prop} {z : Option Nat}
theorem txt_callv {k : Nat} {rest : List Oper} {a : Act} {w : World} {dst : Option Tmp} {ty : TypeId} {pos : String} {after : Array Edge} {guard : Option (Nat × Bool)} {x : Operand} {f : FuncId} {args : Array Operand} {ats : Array TypeId} (bs : List Value) (vs : List Value) (fn : Func) (hl : lt k = false)
    (hw : Region.wanted { dst := dst, op := .call { callee := .value x, args := args, argTypes := ats }, type := ty, pos := pos, after := after, guard := guard } (yielded ops a.tmps) = true)
    (hx : a.eval x = .func (.func f) #[] bs.toArray) (hfn : P.funcs[f]? = some fn) (hn : (fn.name == "runtime.NumGoroutine") = false) (hb : fn.body.isNone = false) (hvs : args.toList.map a.eval = vs)
    (h : Calls P f (vs ++ bs).toArray w fun e w' => ∃ v, e = .returned v ∧ S w' ∧ wpTxtL P ops lt Q S z (k + 1) rest (a.put dst v) w') :
    wpTxtL P ops lt Q S z k ({ dst := dst, op := .call { callee := .value x, args := args, argTypes := ats }, type := ty, pos := pos, after := after, guard := guard } :: rest) a w := by
  refine txt_heavy hl hw (fun K hK => ?_); unfold Oper.wp; have e : execOp a.eval { dst := dst, op := .call { callee := .value x, args := args, argTypes := ats }, type := ty, pos := pos, after := after, guard := guard } = callFunc f (vs ++ bs).toArray := by
    have e1 : args.map a.eval = vs.toArray := by rw [← hvs]; apply Array.ext'; simp
    unfold execOp; simp only [resolve, hx, Deferred.ofValue, invoke, e1]; simp
  rw [e, run_callFunc _ _ hfn hn hb]; rw [Oper.upon_enter]; refine Calls.mono h ?_; rintro e w' ⟨v, rfl, hS, hn⟩; exact hK.out _ _ hS hn
end
end Go
