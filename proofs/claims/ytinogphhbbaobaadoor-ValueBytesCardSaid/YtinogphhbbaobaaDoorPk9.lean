/-
  value.Bytes. Plain: a right value's field is read as it was, other fields are passed over. graticulelaw10.Cut. value.Print at the number 3; text.Digits of a small number. graticuleref07.Same. The chapter's examples hold: graticulelaw10.known answers true. Opening a law's arguments: a slice whose elements have several cells (structs), or are slices themselves, as 'Rd'. Opening a law's arguments: a value. Plain: a number's digits, and back. text.Digits, text.Number of what Digits told, value.number.
-/
import Derived.Test.YtinogphhbbaobaaDoorPk7
import Derived.Test.YtinogphhbbaobaaDoorPk8
import Derived.Test.YtinogphhbbaobaaDoorPk5
import Derived.Test.YtinogphhbbaobaaDoorPk6
import Derived.Test.YtinogphhbbaobaaDoorShelf
import Derived.Test.YtinogphhbbaobaaDoorProg
import Derived.Test.YtinogphhbbaobaaDoorPk1
import Derived.Deep.Slices
import Derived.Test.YtinogphhbbaobaaDoorPk3
import Derived.Lib.ItoaNum
import Derived.Lib.ItoaMem
import Derived.Lib.ItoaLen
import Derived.Lib.AtoiAll
import Derived.Lib.AtoiAllCases
import Derived.Lib.AppendIntMem
import Derived.Lib.SmallJoins
/- value.Bytes. -/
set_option linter.unusedVariables false
set_option linter.unusedSimpArgs false
set_option maxRecDepth 100000
namespace Go
open Go.RowKit Go.Proto Go.Vint
def vFld (v : VV) : Fld := if v.1 = 1 then ⟨1, 2, 0, bnums v.2.1⟩ else if v.1 = 2 then ⟨5, 0, v.2.2, []⟩ else if v.1 = 3 then ⟨6, 0, zig v.2.2, []⟩ else ⟨7, 0, v.2.2, []⟩
def vE (v : VV) : Int := vcF v.1 v.2.1 v.2.2
def vby (v : VV) : List Int := if vE v = 0 then fby (vFld v) else []
theorem vE_zero (v : VV) (h : vE v = 0) : (v.1 = 1 ∧ v.2.2 = 0 ∧ v.2.1.size ≤ 64) ∨ (v.1 = 2 ∧ v.2.1 = ⟨#[]⟩ ∧ 0 ≤ v.2.2 ∧ v.2.2 ≤ 1152921504606846976) ∨ (v.1 = 3 ∧ v.2.1 = ⟨#[]⟩ ∧ -1152921504606846976 ≤ v.2.2 ∧ v.2.2 ≤ 1152921504606846976) ∨ (v.1 = 4 ∧ v.2.1 = ⟨#[]⟩ ∧ 0 ≤ v.2.2 ∧ v.2.2 ≤ 1) := by
  obtain ⟨k, t, n⟩ := v; unfold vE vcF at h; dsimp only at h ⊢; have ht : t.size = 0 → t = ⟨#[]⟩ := fun h => by
    apply ByteArray.ext; exact Array.eq_empty_of_size_eq_zero h
  split at h
  · split at h
    · omega
    · split at h
      · omega
      · split at h <;> first | (exfalso; omega) | (left; omega)
  · split at h
    · split at h
      · omega
      · split at h
        · omega
        · right; right; left; exact ⟨by omega, ht (by omega), by omega, by omega⟩
    · split at h
      · split at h
        · omega
        · split at h
          · omega
          · right; left; exact ⟨by omega, ht (by omega), by omega, by omega⟩
      · split at h
        · split at h
          · omega
          · split at h
            · omega
            · right; right; right; exact ⟨by omega, ht (by omega), by omega, by omega⟩
        · omega
theorem vFld_ok (v : VV) (h : vE v = 0) : chk (vFld v) = 0 ∧ 0 ≤ (vFld v).n ∧ (vFld v).n ≤ 18446744073709551615 ∧ (∀ x ∈ (vFld v).bs, 0 ≤ x ∧ x ≤ 255) ∧ (vFld v).bs.length ≤ 64 := by
  obtain ⟨k, t, n⟩ := v
  rcases vE_zero _ h with ⟨a, b, c⟩ | ⟨a, b, c, d⟩ | ⟨a, b, c, d⟩ | ⟨a, b, c, d⟩ <;> (dsimp only at a b c; subst a; simp only [vFld])
  · simp only [if_true]; exact ⟨by simp [chk], by omega, by omega, bnums_bd t, by rw [bnums_len]; exact c⟩
  · simp only [Int.reduceEq, if_false, if_true]; exact ⟨by simp [chk], c, by dsimp only at d; omega, by simp, by simp⟩
  · simp only [Int.reduceEq, if_false, if_true]; have := zig_bd n (by omega) (by dsimp only at d; omega); exact ⟨by simp [chk], this.1, this.2, by simp, by simp⟩
  · simp only [Int.reduceEq, if_false]; exact ⟨by simp [chk], c, by dsimp only at d; omega, by simp, by simp⟩
end Go
namespace Go.Proofs.YtinogphhbbaobaaDoor
open Go.RowKit Go.Vint Go.Proto

set_option maxHeartbeats 4000000 in
theorem valbytes_any (v : VV) (ht : v.2.1.size ≤ maxLen) (w : World) :
    Calls Tryd.prog 7 #[vVal v] w fun e w' => ∃ x, e = .returned (.tuple #[x, .int .i64 (vE v)]) ∧ w'.ownsRow w.heap.size 5 1 x (vby v).length ((vby v).map (Value.int .u8)) ∧ Below w.heap.size w w' := by
  obtain ⟨k, t, n⟩ := v; have HZ := Lib.hid (vE_zero (k, t, n)); have HO := Lib.hid (vFld_ok (k, t, n)); have HVB := Lib.hid (vby.eq_1 (k, t, n)); have HF : Hid (vFld (k, t, n) = _) := Lib.hid (vFld.eq_1 (k, t, n)); obtain ⟨FL, hFL⟩ : ∃ FL, vFld (k, t, n) = FL := ⟨_, rfl⟩; have HCK := Lib.hid (fun W => vchk_any k n t ht W); obtain ⟨E, hE⟩ : ∃ E, vE (k, t, n) = E := ⟨_, rfl⟩; have hE2 : vcF k t n = E := hE; rw [hE2] at HCK; rw [hE, hFL] at HVB; rw [hE] at HO HZ; rw [hFL] at HO HF; rw [hE]; dsimp only [vVal] at *; obtain ⟨VB, hVB⟩ : ∃ VB, vby (k, t, n) = VB := ⟨_, rfl⟩; rw [hVB] at HVB ⊢; clear hE hE2 hFL hVB; have hb0 := Below.new w (.cells #[.int .i64 k, .string t, .int .i64 n] 23); have k0 := Blk.lit w w.heap.size [.int .i64 k, .string t, .int .i64 n] 23 rfl; obtain ⟨B, hB⟩ : ∃ B, w.heap.size = B := ⟨_, rfl⟩; rw [hB] at k0; have HBE := Lib.hid hB
  go_enter Tryd.func7, Tryd.ntmps7
  go_wp2_with fail
  refine (HCK.out _).mono ?_; rintro e w1 ⟨rfl, hb1⟩; have k1 := k0.keep hb1; have hbw := hb0.trans (hb1.mono hb0.size); have x0 := k1.cell 0 rfl; have x1 := k1.cell 1 rfl; have x2 := k1.cell 2 rfl; clear k0 hb1 hb0 HCK
  by_cases hE : E = 0
  · subst hE; obtain ⟨o1, o2, o3, o4, o5⟩ := HO.out rfl; have hVB := HVB.out; rw [if_pos rfl] at hVB; have HVB2 := Lib.hid hVB; clear hVB HVB; have hpw : pwr [FL] = (fby FL, 0) := by
      rw [pwr_ok _ (by intro f hf; obtain rfl := List.mem_singleton.1 hf; exact o1)]; simp
    rw [← HVB2.out] at hpw; have HPW := Lib.hid hpw; have HW : Hid (∀ W p c, Rd W p (FL.bs.map (Value.int .u8)) → FL.bs.length ≤ c → c ≤ maxLen → (p = none → c = 0) → Calls Tryd.prog 9 #[.slice (some ⟨W.heap.size, 0, none⟩) 1 1] (W.alloc (.cells #[.int .i64 FL.num, .int .i64 FL.kind, .int .u64 FL.n, .slice p FL.bs.length c] 33)) fun e w' => ∃ x, e = .returned (.tuple #[x, .int .i64 0]) ∧ w'.ownsRow (W.heap.size + 1) 5 1 x VB.length (VB.map (Value.int .u8)) ∧ Below W.heap.size W w') := by
      refine Lib.hid fun W p c h1 h2 h3 h4 => ?_; have hbn := Below.new W (.cells #[.int .i64 FL.num, .int .i64 FL.kind, .int .u64 FL.n, .slice p FL.bs.length c] 33); have h := pwrite_any (some ⟨W.heap.size, 0, none⟩) 1 [⟨FL, p, c⟩] (by intro x hx; obtain rfl := List.mem_singleton.1 hx; exact ⟨o4, o2, o3, by dsimp only; omega⟩) (by simp) _ (Rd.new W (flat [⟨FL, p, c⟩]) 33) (by intro x hx; obtain rfl := List.mem_singleton.1 hx; exact ⟨h1.keep hbn, h2, h3, h4⟩); simp only [List.map_cons, List.map_nil, HPW.out] at h; refine h.mono ?_; rintro e w' ⟨x, rfl, hown, hb⟩; exact ⟨x, rfl, by simpa using hown, hbn.trans (hb.mono (by simp))⟩
    clear o1 o2 o3 o4 o5 hpw HPW HO; have hs1 := hbw.size
    by_cases h1 : k = 1
    · subst h1; have hF := HF.out; simp only [if_true] at hF; subst hF; obtain ⟨c2, w2, hcv, hr2, hb2, hc1, hc2⟩ := conv_sb (P := Tryd.prog) w1 9 25 5 Tryd.underlying9 Tryd.underlying25 Tryd.underlying5 t; have hw := HW.out w2 (some ⟨w1.heap.size, 0, none⟩) c2 hr2 (by rw [bnums_len]; exact hc1) (hc2 ht) (by simp); rw [bnums_len] at hw; have HW2 := Lib.hid hw; clear hw HW; have hbw2 := hbw.trans (hb2.mono hs1)
      go_wp2_with fail
      refine HW2.out.mono ?_; rintro e w3 ⟨x, rfl, hown, hb3⟩; have hbw3 := hbw2.trans (hb3.mono hbw2.size); have hown3 : w3.ownsRow w.heap.size _ _ _ _ _ := hown.mono (by have := hbw2.size; omega); clear HW2 hown hb3; go_wp2; refine bodyPost_ret (v := .tuple #[x, .int .i64 0]) (by simp [results, Tryd.results7, go_sem]) rfl ⟨x, rfl, ?_, ?_⟩
      · first | exact hown3 | (rw [← HBE.out]; exact hown3)
      · first | exact hbw3 | (rw [← HBE.out]; exact hbw3)
    · have e1 : (k == 1) = false := by simpa using h1
      have hz := HZ.out rfl
      try dsimp only at hz
      by_cases h2 : k = 2
      · subst h2; have hF := HF.out; simp only [Int.reduceEq, if_false, if_true] at hF; subst hF; have hn0 : 0 ≤ n := by omega
        have hn1 : n ≤ 1152921504606846976 := by omega
        clear hz; have hw := HW.out w1 none 0 (Rd.nil _ _) (by simp) (by simp [maxLen]) (by simp); dsimp only [List.length_nil] at hw; have HW2 := Lib.hid hw; clear hw HW
        go_wp2_with fail
        refine HW2.out.mono ?_; rintro e w3 ⟨x, rfl, hown, hb3⟩; have hbw3 := hbw.trans (hb3.mono hs1); have hown3 : w3.ownsRow w.heap.size _ _ _ _ _ := hown.mono (by omega); clear HW2 hown hb3; go_wp2; refine bodyPost_ret (v := .tuple #[x, .int .i64 0]) (by simp [results, Tryd.results7, go_sem]) rfl ⟨x, rfl, ?_, ?_⟩
        · first | exact hown3 | (rw [← HBE.out]; exact hown3)
        · first | exact hbw3 | (rw [← HBE.out]; exact hbw3)
      · have e2 : (k == 2) = false := by simpa using h2
        by_cases h3 : k = 3
        · subst h3; have hF := HF.out; simp only [Int.reduceEq, if_false, if_true] at hF; subst hF; have hn0 : -1152921504606846976 ≤ n := by omega
          have hn1 : n ≤ 1152921504606846976 := by omega
          clear hz; have hw := HW.out w1 none 0 (Rd.nil _ _) (by simp) (by simp [maxLen]) (by simp); dsimp only [List.length_nil] at hw; have HW2 := Lib.hid hw; clear hw HW
          go_wp2_with fail
          refine (vzig_any n (by omega) (by omega) _).mono ?_; rintro e w2 ⟨rfl, rfl⟩
          go_wp2_with fail
          refine HW2.out.mono ?_; rintro e w3 ⟨x, rfl, hown, hb3⟩; have hbw3 := hbw.trans (hb3.mono hs1); have hown3 : w3.ownsRow w.heap.size _ _ _ _ _ := hown.mono (by omega); clear HW2 hown hb3; go_wp2; refine bodyPost_ret (v := .tuple #[x, .int .i64 0]) (by simp [results, Tryd.results7, go_sem]) rfl ⟨x, rfl, ?_, ?_⟩
          · first | exact hown3 | (rw [← HBE.out]; exact hown3)
          · first | exact hbw3 | (rw [← HBE.out]; exact hbw3)
        · have e3 : (k == 3) = false := by simpa using h3
          obtain rfl : k = 4 := by omega
          have hF := HF.out; simp only [Int.reduceEq, if_false, if_true] at hF; subst hF; have hn0 : 0 ≤ n := by omega
          have hn1 : n ≤ 1 := by omega
          clear hz; have hw := HW.out w1 none 0 (Rd.nil _ _) (by simp) (by simp [maxLen]) (by simp); dsimp only [List.length_nil] at hw; have HW2 := Lib.hid hw; clear hw HW
          go_wp2_with fail
          refine HW2.out.mono ?_; rintro e w3 ⟨x, rfl, hown, hb3⟩; have hbw3 := hbw.trans (hb3.mono hs1); have hown3 : w3.ownsRow w.heap.size _ _ _ _ _ := hown.mono (by omega); clear HW2 hown hb3; go_wp2; refine bodyPost_ret (v := .tuple #[x, .int .i64 0]) (by simp [results, Tryd.results7, go_sem]) rfl ⟨x, rfl, ?_, ?_⟩
          · first | exact hown3 | (rw [← HBE.out]; exact hown3)
          · first | exact hbw3 | (rw [← HBE.out]; exact hbw3)
  · have hE' : (E != 0) = true := by simpa using hE
    have hVB := HVB.out; rw [if_neg hE] at hVB; have HVB2 := Lib.hid hVB; clear hVB HVB; go_wp2; refine bodyPost_ret (v := .tuple #[.slice none 0 0, .int .i64 E]) (by simp [results, Tryd.results7, go_sem]) rfl ⟨_, rfl, ?_, ?_⟩
    · rw [HVB2.out]; exact World.ownsRow_nil _ _ _ _
    · first | exact hbw | (rw [← HBE.out]; exact hbw)
end Go.Proofs.YtinogphhbbaobaaDoor
/- Plain: a right value's field is read as it was, other fields are passed over. -/
set_option linter.unusedVariables false
set_option linter.unusedSimpArgs false
namespace Go
open Go.RowKit Go.Proto Go.Vint
theorem knF_vFld (v : VV) (h : vE v = 0) : knF (vFld v) = (v, 0) := by
  obtain ⟨k, t, n⟩ := v
  rcases vE_zero _ h with ⟨a, b, c⟩ | ⟨a, b, c, d⟩ | ⟨a, b, c, d⟩ | ⟨a, b, c, d⟩ <;> (dsimp only at a b c; subst a; subst b; simp only [vFld])
  · simp [knF, strOfNums_bnums]
  · dsimp only at d; simp only [Int.reduceEq, if_false, if_true, knF]; rw [if_neg (by omega)]
  · simp [knF, zag_zig]
  · dsimp only at d; simp only [Int.reduceEq, if_false, if_true, knF]; rw [if_neg (by omega)]
theorem knF_other (m n : Int) (h : 8 ≤ m) : knF ⟨m, 0, n, []⟩ = (vZ, 0) := by
  simp only [knF]
  repeat rw [if_neg (by omega)]
  rfl
theorem vE_kind (v : VV) (h : vE v = 0) : v.1 ≠ 0 := by
  rcases vE_zero _ h with ⟨a, -⟩ | ⟨a, -⟩ | ⟨a, -⟩ | ⟨a, -⟩ <;> omega
theorem vrd_flds (l : List Fld) (hx : ∀ x ∈ l, chk x = 0 ∧ 0 ≤ x.n ∧ x.n ≤ 18446744073709551615 ∧ x.bs.length ≤ 1000000) : vrd (l.flatMap fby) = vrdF vZ l := by
  rw [vrd, pall_fby l hx]; simp
theorem other_ok (m n : Int) (h : 8 ≤ m) (h1 : m ≤ 1007) (h2 : 0 ≤ n) (h3 : n ≤ 18446744073709551615) : chk ⟨m, 0, n, []⟩ = 0 := by
  simp only [chk]; rw [if_neg (by omega), if_neg (by omega), if_neg (by simp), if_neg (by omega)]
section
variable (v u : VV) (m n : Int) (hv : vE v = 0) (hu : vE u = 0) (h : 8 ≤ m) (h1 : m ≤ 1007) (h2 : 0 ≤ n) (h3 : n ≤ 18446744073709551615)
include hv h h1 h2 h3
theorem reads_ov : vrd (fby ⟨m, 0, n, []⟩ ++ fby (vFld v)) = (v, 0) := by
  have hf := vFld_ok v hv; have e : fby ⟨m, 0, n, []⟩ ++ fby (vFld v) = [⟨m, 0, n, []⟩, vFld v].flatMap fby := by simp
  rw [e, vrd_flds _ (by
    intro x hx
    rcases List.mem_cons.1 hx with rfl | hx
    · exact ⟨other_ok m n h h1 h2 h3, h2, h3, by simp⟩
    · obtain rfl := List.mem_singleton.1 hx; exact ⟨hf.1, hf.2.1, hf.2.2.1, by omega⟩)]
  have hk := vE_kind v hv; have he : vcF v.1 v.2.1 v.2.2 = 0 := hv; simp [vrdF, knF_other m n h, knF_vFld v hv, hk, he, vZ]
theorem reads_vo : vrd (fby (vFld v) ++ fby ⟨m, 0, n, []⟩) = (v, 0) := by
  have hf := vFld_ok v hv; have e : fby (vFld v) ++ fby ⟨m, 0, n, []⟩ = [vFld v, ⟨m, 0, n, []⟩].flatMap fby := by simp
  rw [e, vrd_flds _ (by
    intro x hx
    rcases List.mem_cons.1 hx with rfl | hx
    · exact ⟨hf.1, hf.2.1, hf.2.2.1, by omega⟩
    · obtain rfl := List.mem_singleton.1 hx; exact ⟨other_ok m n h h1 h2 h3, h2, h3, by simp⟩)]
  have hk := vE_kind v hv; have he : vcF v.1 v.2.1 v.2.2 = 0 := hv; simp [vrdF, knF_other m n h, knF_vFld v hv, hk, he, vZ]
end
theorem reads_vu (v u : VV) (hv : vE v = 0) (hu : vE u = 0) : (vrd (fby (vFld v) ++ fby (vFld u))).2 = 8 := by
  have hf := vFld_ok v hv; have hg := vFld_ok u hu; have e : fby (vFld v) ++ fby (vFld u) = [vFld v, vFld u].flatMap fby := by simp
  rw [e, vrd_flds _ (by
    intro x hx
    rcases List.mem_cons.1 hx with rfl | hx
    · exact ⟨hf.1, hf.2.1, hf.2.2.1, by omega⟩
    · obtain rfl := List.mem_singleton.1 hx; exact ⟨hg.1, hg.2.1, hg.2.2.1, by omega⟩)]
  have hk := vE_kind v hv; have hl := vE_kind u hu; simp [vrdF, knF_vFld v hv, knF_vFld u hu, hk, hl, vZ]
theorem reads_o (m n : Int) (h : 8 ≤ m) (h1 : m ≤ 1007) (h2 : 0 ≤ n) (h3 : n ≤ 18446744073709551615) : (vrd (fby ⟨m, 0, n, []⟩)).2 = 7 := by
  have e : fby ⟨m, 0, n, []⟩ = [(⟨m, 0, n, []⟩ : Fld)].flatMap fby := by simp
  rw [e, vrd_flds _ (by
    intro x hx; obtain rfl := List.mem_singleton.1 hx; exact ⟨other_ok m n h h1 h2 h3, h2, h3, by simp⟩)]
  simp [vrdF, knF_other m n h, vZ]
end Go
/- graticulelaw10.Cut. -/
set_option linter.unusedVariables false
set_option linter.unusedSimpArgs false
set_option maxRecDepth 100000
namespace Go.Proofs.YtinogphhbbaobaaDoor
open Go.RowKit
set_option maxHeartbeats 1000000 in
theorem vcut_any (k n : Int) (t : ByteArray) (ht : t.size ≤ maxLen) (w : World) :
    Calls Tryd.prog 6 #[vVal (k, t, n)] w fun e w' => e = .returned (vVal (k, t.extract 0 (min t.size 100), n)) ∧ Below w.heap.size w w' := by
  have ht2 : t.size ≤ 9223372036854775807 := by unfold maxLen at ht; omega
  dsimp only [vVal]
  go_enter Tryd.func6, Tryd.ntmps6
  by_cases h : 100 < t.size
  · have h2 : (100 : Int) < (t.size : Int) := by omega
    have hm : min (t.size : Int) 100 = 100 := by omega
    go_wp2; refine bodyPost_ret (v := .agg #[.int .i64 k, .string (t.extract 0 (min t.size 100)), .int .i64 n]) ?_ rfl ⟨rfl, (Below.new w _).alloc (by simp) _⟩; have q := Blk.lit (w.alloc (.cells #[.int .i64 k, .string (t.extract 0 100), .int .i64 n] 23)) (w.heap.size + 1) [.int .i64 k, .string (t.extract 0 100), .int .i64 n] 23 (by simp); have q0 := q.cell 0 rfl; have q1 := q.cell 1 rfl; have q2 := q.cell 2 rfl; rw [show min t.size 100 = 100 by omega]; simp [results, Tryd.results6, go_sem, q0, q1, q2]
  · have h2 : ¬ (100 : Int) < (t.size : Int) := by omega
    have hm : min (t.size : Int) 100 = (t.size : Int) := by omega
    go_wp2; refine bodyPost_ret (v := .agg #[.int .i64 k, .string (t.extract 0 (min t.size 100)), .int .i64 n]) ?_ rfl ⟨rfl, (Below.new w _).alloc (by simp) _⟩; have q := Blk.lit (w.alloc (.cells #[.int .i64 k, .string t, .int .i64 n] 23)) (w.heap.size + 1) [.int .i64 k, .string t, .int .i64 n] 23 (by simp); have q0 := q.cell 0 rfl; have q1 := q.cell 1 rfl; have q2 := q.cell 2 rfl; rw [show min t.size 100 = t.size by omega, show t.extract 0 t.size = t by simp]; simp [results, Tryd.results6, go_sem, q0, q1, q2]
end Go.Proofs.YtinogphhbbaobaaDoor
/- value.Print at the number 3; text.Digits of a small number. -/
set_option linter.unusedVariables false
set_option linter.unusedSimpArgs false
set_option maxRecDepth 100000
namespace Go.Proofs.YtinogphhbbaobaaDoor
open Go.RowKit

theorem digits_small (i : Nat) (hi : i < 100) (w : World) :
    Calls Tryd.prog 33 #[.int .i64 i] w fun e w' => e = .returned (.string ⟨(Lib.decDigits i).toArray⟩) ∧ w' = w := by
  have H := Lib.hid (Tryd.strconv_Itoa_small i hi w)
  go_enter Tryd.func33, Tryd.ntmps33
  go_wp2_with fail
  refine H.out.mono ?_; rintro e w' ⟨rfl, rfl⟩; go_wp2; go_ret; exact ⟨rfl, rfl⟩

set_option maxHeartbeats 1000000 in
theorem print_u3 (w : World) :
    Calls Tryd.prog 16 #[vVal (2, ⟨#[]⟩, 3)] w fun e w' => e = .returned (.tuple #[.string ⟨#[117, 51]⟩, .int .i64 0]) ∧ Below w.heap.size w w' := by
  have hcv : vcF 2 ⟨#[]⟩ 3 = 0 := by decide
  have HCK := Lib.hid (fun W => vchk_any 2 3 ⟨#[]⟩ (by simp [ByteArray.size]) W); rw [hcv] at HCK; dsimp only [vVal]; have hb0 := Below.new w (.cells #[.int .i64 2, .string ⟨#[]⟩, .int .i64 3] 23); have k0 := Blk.lit w w.heap.size [.int .i64 2, .string ⟨#[]⟩, .int .i64 3] 23 rfl; have HD := Lib.hid (fun W => digits_small 3 (by decide) W); have hd : Lib.decDigits 3 = [51] := Lib.decDigits_one (by decide); rw [hd] at HD; clear hcv hd
  go_enter Tryd.func16, Tryd.ntmps16
  go_wp2_with fail
  refine (HCK.out _).mono ?_; rintro e w1 ⟨rfl, hb1⟩; have k1 := k0.keep hb1; have hbw := hb0.trans (hb1.mono hb0.size); have x0 := k1.cell 0 rfl; have x1 := k1.cell 1 rfl; have x2 := k1.cell 2 rfl; clear k0 hb1 hb0 HCK
  go_wp2_with fail
  refine (HD.out _).mono ?_; rintro e w2 ⟨rfl, rfl⟩; go_wp2; refine bodyPost_ret (v := .tuple #[.string ⟨#[117, 51]⟩, .int .i64 0]) (by simp [results, Tryd.results16, go_sem]; try rfl) rfl ⟨rfl, hbw⟩
end Go.Proofs.YtinogphhbbaobaaDoor
/- graticuleref07.Same. -/
set_option linter.unusedVariables false
set_option linter.unusedSimpArgs false
namespace Go.Proofs.YtinogphhbbaobaaDoor
open Go.RowKit

theorem rsame_any (a b : Option Addr) (c d : Nat) (L M : List Int) (hl : L.length ≤ 140737488355328) (hm : M.length ≤ 140737488355328) (w : World) (hr : Rd w a (L.map (Value.int .u8))) (hs : Rd w b (M.map (Value.int .u8))) :
    Calls Tryd.prog 19 #[.slice a L.length c, .slice b M.length d] w fun e w' => e = .returned (.bool (decide (L = M))) ∧ ∃ n, w' = w.drewN n := by
  by_cases hlen : L.length = M.length
  · have hne : ((L.length : Int) != (M.length : Int)) = false := by simp [hlen]
    go_enter Tryd.func19, Tryd.ntmps19
    have HL := Lib.hid hlen; clear hlen; go_wp2
    go_loopw [5] (fun i wr => ∃ k : Nat, k ≤ L.length ∧ i = .int .i64 k ∧ L.take k = M.take k ∧ ∃ n, wr = w.drewN n) (fun i _ => L.length - (intOf i).toNat)
    case atStart => exact ⟨0, Nat.zero_le _, rfl, rfl, 0, rfl⟩
    case round =>
      obtain ⟨k, hk, rfl, heq, n, rfl⟩ := hrel; have HE := Lib.hid heq; clear heq
      by_cases hlt : k < L.length
      · have hlt2 : k < M.length := by have := HL.out; omega
        obtain ⟨b1, off1, rfl, hcell1, _⟩ := hr.at (i := k) (v := .int .u8 L[k]) (by simp [hlt]); obtain ⟨b2, off2, rfl, hcell2, _⟩ := hs.at (i := k) (v := .int .u8 M[k]) (by simp [hlt2])
        by_cases hx : L[k] = M[k]
        · have hb : (L[k] != M[k]) = false := by simp [hx]
          have HX := Lib.hid hx; clear hx; go_wp2
          go_quiet (fail)
          go_wp2; go_roundw
          case rel => exact ⟨k + 1, by omega, by go_num, by rw [List.take_succ_eq_append_getElem hlt, List.take_succ_eq_append_getElem hlt2, HE.out, HX.out], n + nq, by simp⟩
          case measure => simp [intOf]; omega
        · have hb : (L[k] != M[k]) = true := by simpa using hx
          go_wp2
          go_quiet (fail)
          go_wp2; go_ret; refine ⟨ret_bool ?_, n + nq, by simp⟩
          symm; apply decide_eq_false; intro h; exact hx (by simp [h])
      · go_wp2; go_ret; refine ⟨ret_bool ?_, n, rfl⟩
        symm; apply decide_eq_true
        have := HE.out
        rwa [List.take_of_length_le (by omega), List.take_of_length_le (by have := HL.out; omega)] at this
  · have hne : ((L.length : Int) != (M.length : Int)) = true := by simp; omega
    go_enter Tryd.func19, Tryd.ntmps19
    go_wp2; go_ret; refine ⟨ret_bool ?_, 0, rfl⟩
    symm; apply decide_eq_false; intro h; rw [h] at hlen; exact hlen rfl
end Go.Proofs.YtinogphhbbaobaaDoor
/- The chapter's examples hold: graticulelaw10.known answers true. -/
set_option linter.unusedVariables false
set_option linter.unusedSimpArgs false
set_option maxRecDepth 100000
namespace Go.Proofs.YtinogphhbbaobaaDoor
open Go.RowKit Go.Vint Go.Proto

theorem vby_m3 : vby (3, ⟨#[]⟩, -3) = [48, 5] := by
  rw [vby, if_pos (by decide)]; simp only [vFld, Int.reduceEq, if_false, if_true, fby, tail]; simp [vb_lo, zig]
theorem vrd_21 : (vrd [21, 0, 0, 0, 0]).2 = 14 := by
  have e : [(21 : Int), 0, 0, 0, 0] = [(⟨2, 5, 0, []⟩ : Fld)].flatMap fby := by
    simp only [List.flatMap_cons, List.flatMap_nil, fby, tail, Int.reduceEq, if_false, if_true]; simp [vb_lo, low]
  have h := pall_fby [(⟨2, 5, 0, []⟩ : Fld)] (by intro x hx; obtain rfl := List.mem_singleton.1 hx; exact ⟨by decide, by decide, by decide, by simp⟩); rw [← e] at h; rw [vrd, h]; simp [vrdF, knF]

set_option maxHeartbeats 2000000 in
theorem vknown_any (w : World) :
    Calls Tryd.prog 8 #[] w fun e w' => e = .returned (.bool true) ∧ Below w.heap.size w w' := by
  have H1 := Lib.hid (fun W => valbytes_any (3, ⟨#[]⟩, -3) (by simp [ByteArray.size]) W); have hE : vE (3, ⟨#[]⟩, -3) = 0 := by decide
  rw [vby_m3, hE] at H1; have H2 := Lib.hid (fun W => print_u3 W); have H3 := Lib.hid (fun W => valread_any (some ⟨W.heap.size, 0, none⟩) 5 [21, 0, 0, 0, 0] (by decide) (by decide) (by decide) (by decide) _ (Rd.new W [.int .u8 21, .int .u8 0, .int .u8 0, .int .u8 0, .int .u8 0] 5)); obtain ⟨R, hR⟩ : ∃ R, vrd [21, 0, 0, 0, 0] = R := ⟨_, rfl⟩; have hR2 : R.2 = 14 := by rw [← hR]; exact vrd_21
  rw [hR] at H3; obtain ⟨⟨rk, rt, rn⟩, re⟩ := R; dsimp only at hR2; subst hR2; dsimp only [vVal] at *; clear hR hE
  go_enter Tryd.func8, Tryd.ntmps8
  go_wp2_with fail
  refine (H1.out _).mono ?_; rintro e w1 ⟨v, rfl, hown, hb1⟩; obtain ⟨a, c, rfl, -, -, -, hr1, -⟩ := hown.form; clear H1 hown
  go_wp2_with fail
  refine (H2.out _).mono ?_; rintro e w2 ⟨rfl, hb2⟩; have hr2 := hr1.keep hb2; have hbw2 := hb1.trans (hb2.mono hb1.size); clear H2 hr1 hb1 hb2
  go_wp2_with fail
  refine (H3.out _).mono ?_; rintro e w3 ⟨rfl, hb3⟩; have hb4 := (Below.new w2 (.cells #[.int .u8 21, .int .u8 0, .int .u8 0, .int .u8 0, .int .u8 0] 5)).trans (hb3.mono (by simp)); have hb5 := hb4.trans ((Below.new w3 (.cells #[.int .i64 rk, .string rt, .int .i64 rn] 23)).mono hb4.size); have hr5 := (hr2.keep hb5).keep (Below.new _ (.cells #[.int .u8 48, .int .u8 5] 5)); have hbw5 := hbw2.trans (hb5.mono hbw2.size); have hbw6 := hbw5.trans ((Below.new _ (.cells #[.int .u8 48, .int .u8 5] 5)).mono hbw5.size); clear H3 hr2 hbw2 hb3 hb4; have hsm := rsame_any a (some ⟨w3.heap.size + 1, 0, none⟩) c 2 [48, 5] [48, 5] (by decide) (by decide) _ hr5 (Rd.lit _ _ [.int .u8 48, .int .u8 5] 5 (by simp)); have HSM := Lib.hid hsm; clear hsm hr5 hb5
  go_wp2_with fail
  refine HSM.out.mono ?_; rintro e w4 ⟨rfl, n, rfl⟩; have hbw7 := below_drewN hbw6 n; go_wp2; go_ret; exact ⟨rfl, hbw7⟩
end Go.Proofs.YtinogphhbbaobaaDoor
/- Opening a law's arguments: a slice whose elements have several cells (structs), or are slices themselves, as 'Rd'. -/
namespace Go
open Go.ChangeShapes Go.WideShapes Go.ChangeAt Go.RowKit Go.Deep

theorem flatMap_len {α β : Type} (f : α → List β) (m : Nat) (hf : ∀ x, (f x).length = m) (xs : List α) : (xs.flatMap f).length = xs.length * m := by
  induction xs with
  | nil => simp
  | cons x xs ih => rw [List.flatMap_cons, List.length_append, hf, ih, List.length_cons, Nat.succ_mul]; omega

theorem flatMap_get {α β : Type} (f : α → List β) (m : Nat) (hf : ∀ x, (f x).length = m) (xs : List α) (i j : Nat) (hi : i < xs.length) (hj : j < m) : (xs.flatMap f)[i * m + j]? = (f xs[i])[j]? := by
  induction xs generalizing i with
  | nil => simp at hi
  | cons x xs ih =>
    rw [List.flatMap_cons]
    cases i with
    | zero => rw [List.getElem?_append_left (by rw [hf]; omega), Nat.zero_mul, Nat.zero_add, List.getElem_cons_zero]
    | succ i =>
      rw [List.getElem?_append_right (by rw [hf, Nat.succ_mul]; omega), List.getElem_cons_succ, hf, ← ih i (by simpa using hi)]
      congr 1
      rw [Nat.succ_mul]; omega

theorem open_flat {α : Type} [Inhabited α] {H : Type} {enc : TypeId × Value → H} {P : Program} {W : World} {base : Nat} {spare : Nat → Bool} {t e : TypeId} {fuel : Nat} {a : Option Addr} {len cap : Nat} {x : DataW H × List MemPlace} {held : Bool}
    (m : Nat) (hm0 : 0 < m) (cells : α → List Value) (Good : α → Prop) (hcl : ∀ y, (cells y).length = m)
    (ht : P.underlying t = some (.slice e)) (hc : P.cellsOf e = m)
    (one : ∀ n cs' z, cs'.length = m → DataW.trod enc P W base spare held n e cs' = some z → ∃ y, cs' = cells y ∧ Good y)
    (h : DataW.trod enc P W base spare held fuel t [.slice a len cap] = some x) :
    ∃ xs : List α, len = xs.length ∧ len ≤ cap ∧ cap ≤ maxLen ∧ (a = none → cap = 0) ∧ Rd W a (xs.flatMap cells) ∧ ∀ y ∈ xs, Good y := by
  rcases open_slice ht h with ⟨hcs, _⟩ | ⟨ad, l, c, k, n, D, Pl, hcs, hb, hl, hmx, hk, _, hx⟩
  · simp at hcs; obtain ⟨rfl, rfl, rfl⟩ := hcs; exact ⟨[], rfl, Nat.le_refl _, by simp [maxLen], fun _ => rfl, .inl rfl, by simp⟩
  · simp at hcs; obtain ⟨rfl, rfl, rfl⟩ := hcs; have hlk : len ≤ k := by rw [hk]; split <;> omega
    have each : ∀ i, i < len → ∃ y : α, Good y ∧ ∀ j v, (cells y)[j]? = some v → W.cell? ((ad.add (i * m)).add j) = some v := by
      intro i hi; obtain ⟨cs', h1, h2⟩ := hx i (by omega); rw [hc] at h1; obtain ⟨_, hlen, hcell⟩ := World.cells?_some h1; obtain ⟨y, rfl, hg⟩ := one _ _ _ hlen h2; refine ⟨y, hg, fun j v hv => ?_⟩; rw [hcell j (by have := (List.getElem?_eq_some_iff.1 hv).1; rw [hcl] at this; exact this)]; exact hv
    obtain ⟨y, hy⟩ := choose_lt each; refine ⟨(List.range len).map y, by simp, hl, hmx, fun h => (by cases h), ?_, ?_⟩
    · by_cases h0 : len = 0
      · subst h0; exact .inl rfl
      · obtain ⟨v0, hv0⟩ : ∃ v, (cells (y 0))[0]? = some v := ⟨_, List.getElem?_eq_getElem (by rw [hcl]; exact hm0)⟩; have hs := cell_spot ((hy 0 (by omega)).2 0 v0 hv0); have hs' : ad.spot = none := by simpa [Addr.add] using hs
        obtain ⟨b, off, sp⟩ := ad; simp only at hs'; subst hs'; refine .inr ⟨b, off, rfl, fun p v hv => ?_⟩; have hp : p < len * m := by
          have := (List.getElem?_eq_some_iff.1 hv).1
          rwa [flatMap_len cells m hcl, List.length_map, List.length_range] at this
        have hi : p / m < len := Nat.div_lt_of_lt_mul (by rw [Nat.mul_comm]; exact hp); have hj : p % m < m := Nat.mod_lt _ hm0; have hpe : p / m * m + p % m = p := Nat.div_add_mod' p m; rw [← hpe, flatMap_get cells m hcl _ _ _ (by simpa using hi) hj] at hv; simp only [List.getElem_map, List.getElem_range] at hv; have := (hy _ hi).2 _ _ hv; rw [add_add, hpe] at this; unfold Addr.add at this
        split at this
        · subst_vars; simpa using this
        · simpa using this
    · intro z hz; obtain ⟨i, hi, rfl⟩ := List.mem_map.1 hz; exact (hy i (List.mem_range.1 hi)).1
end Go
/- Opening a law's arguments: a value. -/
set_option maxRecDepth 100000
namespace Go.Proofs.YtinogphhbbaobaaDoor
open Go.RowKit Go.ChangeShapes Go.WideShapes Go.ChangeAt
def ValIn (v : VV) : Prop := v.2.1.size ≤ maxLen ∧ (Lit.int .i64 v.1).wf = true ∧ (Lit.int .i64 v.2.2).wf = true
theorem open_val {H : Type} {enc : TypeId × Value → H} {W : World} {base b0 : Nat} {spare : Nat → Bool} {held : Bool} {r : Reach} {v : Value} {d : DataW H} {ps : List MemPlace} (hv : Value.okWide Tryd.prog W r b0 23 v)
    (hd : DataW.Trod enc Tryd.prog W base spare held 23 v d ps) : ∃ p : VV, v = vVal p ∧ ValIn p := by
  obtain ⟨cs, rfl, hsz⟩ := okWide_struct Tryd.underlying23 hv; obtain ⟨n, hd⟩ := hd; have hc : (Value.agg cs).cells.toList = cs.toList := by simp [Value.cells]
  rw [hc] at hd; obtain ⟨xs, k, hk, hxy, _, hxl, hf⟩ := DataW.trod_struct Tryd.underlying23 hd; have c2 : Tryd.prog.cellsOf 23 = 3 := by kernel_rfl
  have c3 : Tryd.prog.cellsOf 3 = 1 := by kernel_rfl
  have c4 : Tryd.prog.cellsOf 9 = 1 := by kernel_rfl
  rw [c2] at hsz; obtain ⟨l⟩ := cs
  match xs, hxl, l, hsz with
  | [y0, y1, y2], _, [v0, v1, v2], _ =>
    have g0 := hf 0 _ rfl; have g1 := hf 1 _ rfl; have g2 := hf 2 _ rfl; simp [c3, c4] at g0 g1 g2; obtain ⟨n0, e0, -, w0⟩ := DataW.trod_int Tryd.underlying3 g0; obtain ⟨s1, e1, -, w1⟩ := DataW.trod_string Tryd.underlying9 g1; obtain ⟨n2, e2, -, w2⟩ := DataW.trod_int Tryd.underlying3 g2; simp at e0 e1 e2; subst e0 e1 e2; exact ⟨(n0, s1, n2), rfl, w1, w0, w2⟩
end Go.Proofs.YtinogphhbbaobaaDoor
/- Plain: a number's digits, and back. -/
set_option linter.unusedVariables false
set_option linter.unusedSimpArgs false
namespace Go.Dec
open Go.Lib
theorem ofNat_digit {d : Nat} (h : d < 10) : (UInt8.ofNat (48 + d)).toNat = 48 + d := by
  rw [UInt8.toNat_ofNat']; omega
theorem dec_bytes : ∀ (u : Nat), ∀ c ∈ decDigits u, 48 ≤ c.toNat ∧ c.toNat ≤ 57 := by
  intro u
  induction u using Nat.strongRecOn with
  | ind u ih =>
    intro c hc; rw [decDigits] at hc
    split at hc
    · obtain rfl := List.mem_singleton.1 hc; rw [ofNat_digit (by omega)]; omega
    · rcases List.mem_append.1 hc with h | h
      · exact ih (u / 10) (by omega) c h
      · obtain rfl := List.mem_singleton.1 h; rw [ofNat_digit (by omega)]; omega
theorem dec_ne (u : Nat) : decDigits u ≠ [] := by
  rw [decDigits]; split <;> simp
theorem dec_head : ∀ (u : Nat) (c : UInt8) (r : List UInt8), decDigits u = c :: r → c.toNat = 48 → u = 0 ∧ r = [] := by
  intro u
  induction u using Nat.strongRecOn with
  | ind u ih =>
    intro c r h hc; rw [decDigits] at h
    split at h
    · cases h
      rw [ofNat_digit (by omega)] at hc; exact ⟨by omega, rfl⟩
    · exfalso
      cases hd : decDigits (u / 10) with
      | nil => exact dec_ne _ hd
      | cons x t =>
        rw [hd] at h; simp at h; have := (ih (u / 10) (by omega) x t hd (by rw [h.1]; exact hc)).1; omega
theorem parse_append : ∀ (l : List UInt8) (acc v : Nat) (m : List UInt8), parseUint10 acc l = .ok v → parseUint10 acc (l ++ m) = parseUint10 v m
  | [], acc, v, m, h => by
    simp only [parseUint10] at h
    injection h with h
    rw [List.nil_append, h]
  | c :: r, acc, v, m, h => by
    simp only [parseUint10] at h; rw [List.cons_append]; simp only [parseUint10]
    split at h
    · rename_i h1; rw [if_pos h1]
      split at h
      · cases h
      · rename_i h2; rw [if_neg h2]
        split at h
        · cases h
        · rename_i h3; rw [if_neg h3]; exact parse_append r _ v m h
    · cases h
theorem parse_dec : ∀ (u : Nat), u < 18446744073709551616 → parseUint10 0 (decDigits u) = .ok u := by
  intro u
  induction u using Nat.strongRecOn with
  | ind u ih =>
    intro hu; rw [decDigits]
    split
    · rename_i h; simp only [parseUint10]; rw [ofNat_digit h, if_pos (by omega), if_neg (by omega), if_neg (by omega)]
      congr 1; omega
    · rename_i h; rw [parse_append _ 0 (u / 10) _ (ih (u / 10) (by omega) (by omega))]; simp only [parseUint10]; rw [ofNat_digit (by omega), if_pos (by omega), if_neg (by omega), if_neg (by omega)]
      congr 1; omega
theorem mag_dec (u : Nat) (h : u < 18446744073709551616) : parseMag (decDigits u) = .ok u := by
  unfold parseMag; rw [if_neg (dec_ne u), parse_dec u h]
theorem atoi_itoa (n : Int) (h0 : -9223372036854775808 ≤ n) (h1 : n ≤ 9223372036854775807) : atoiAll (itoa n) = .ok n := by
  unfold itoa
  split
  · rename_i h; unfold atoiAll; have e : ((45 : UInt8).toNat = 43 ∨ (45 : UInt8).toNat = 45) := .inr rfl; simp only [if_pos e]; rw [mag_dec _ (by omega)]; have e2 : (45 : UInt8).toNat = 45 := rfl; simp only [e2, not_true_eq_false, false_and, if_false, true_and, if_true]; rw [if_neg (by omega)]
    congr 1; omega
  · rename_i h
    cases hd : decDigits n.toNat with
    | nil => exact absurd hd (dec_ne _)
    | cons c r =>
      have hb := dec_bytes n.toNat c (by rw [hd]; simp); unfold atoiAll; simp only; rw [if_neg (by omega), ← hd, mag_dec _ (by omega)]; have e2 : ¬ c.toNat = 45 := by omega
      simp only [e2, not_false_eq_true, true_and, false_and, if_false]; rw [if_neg (by omega)]
      congr 1; omega
end Go.Dec
/- text.Digits, text.Number of what Digits told, value.number. -/
set_option linter.unusedVariables false
set_option linter.unusedSimpArgs false
set_option maxRecDepth 100000
namespace Go
open Go.RowKit
theorem below_bytesWorld (w : World) (e : TypeId) (t : ByteArray) : Below w.heap.size w (Lib.bytesWorld w e t) :=
  ⟨rfl, rfl, rfl, by rw [Lib.bytesWorld_size]; omega, fun k hk => Lib.bytesWorld_at_old w e t k hk⟩
end Go
namespace Go.Proofs.YtinogphhbbaobaaDoor
open Go.RowKit
def TabOk (w : World) : Prop := Lib.TabIs Tryd.prog w "internal/strconv.uint64pow10" .u64 Lib.pow10Tab
theorem digits_any (n : Int) (h0 : -9223372036854775808 ≤ n) (h1 : n ≤ 9223372036854775807) (w : World) (ht : TabOk w) :
    Calls Tryd.prog 33 #[.int .i64 n] w fun e w' => e = .returned (.string ⟨(Lib.itoa n).toArray⟩) ∧ Below w.heap.size w w' := by
  have H := Lib.hid (Tryd.strconv_Itoa n h0 h1 w ht)
  go_enter Tryd.func33, Tryd.ntmps33
  go_wp2_with fail
  refine H.out.mono ?_; rintro e w' ⟨rfl, k, os, rfl⟩; have hb := Lib.below_grow w.heap.size w (Nat.le_refl _) k os; go_wp2; go_ret; exact ⟨rfl, hb⟩

set_option maxHeartbeats 2000000 in
theorem number_itoa (n : Int) (h0 : -1152921504606846976 ≤ n) (h1 : n ≤ 1152921504606846976) (w : World) :
    Calls Tryd.prog 57 #[.string ⟨(Lib.itoa n).toArray⟩] w fun e w' => e = .returned (.tuple #[.int .i64 n, .int .i64 0]) ∧ Below w.heap.size w w' := by
  have hA := Dec.atoi_itoa n (by omega) (by omega); have hL := Lib.itoa_length_le n (by omega) (by omega); obtain ⟨S, hS⟩ : ∃ S, Lib.itoa n = S := ⟨_, rfl⟩; obtain ⟨DG, hDG⟩ : ∃ D, Lib.decDigits n.natAbs = D := ⟨_, rfl⟩; have hT : Lib.trimPrefix S [45] = DG := by
    rw [← hS, ← hDG]; unfold Lib.itoa
    split
    · simp [Lib.trimPrefix, Lib.hasPrefix]
    · rename_i hn; have e : n.natAbs = n.toNat := by omega
      rw [e]
      cases hd : Lib.decDigits n.toNat with
      | nil => exact absurd hd (Dec.dec_ne _)
      | cons c r =>
        have := Dec.dec_bytes n.toNat c (by rw [hd]; simp); have hc : ¬ (45 : UInt8) = c := by rintro rfl; simp at this
        have hc2 : ¬ c = (45 : UInt8) := fun e => hc e.symm; simp [Lib.trimPrefix, Lib.hasPrefix, hc, hc2]
  have hB : ∀ c ∈ DG, 48 ≤ c.toNat ∧ c.toNat ≤ 57 := by rw [← hDG]; exact Dec.dec_bytes _
  have hN : DG ≠ [] := by rw [← hDG]; exact Dec.dec_ne _
  have hE : DG.isEmpty = false := by cases DG with | nil => exact absurd rfl hN | cons => rfl
  have hS2 : (S == [45, 48]) = false := by
    rw [beq_eq_false_iff_ne, ← hS]; unfold Lib.itoa
    split
    · intro e; rw [List.cons.injEq] at e; have := (Dec.dec_head _ _ _ e.2 rfl).1; omega
    · intro e; have := Dec.dec_bytes n.toNat 45 (by rw [e]; simp); simp at this
  rw [hS] at hA hL ⊢; have HT := Lib.hid (Tryd.strings_TrimPrefix ⟨S.toArray⟩ ⟨#[45]⟩ w); simp only at HT; rw [hT] at HT; have HAT := Lib.hid (fun W => Tryd.strconv_Atoi_ok ⟨S.toArray⟩ (by show S.toArray.size ≤ _; rw [List.size_toArray]; omega) n hA W); have hD0 : 1 < DG.length → ∀ h : 0 < (⟨DG.toArray⟩ : ByteArray).size, (((⟨DG.toArray⟩ : ByteArray)[0]'h).toNat : Int) ≠ 48 := by
    intro hl h he
    cases hd : DG with
    | nil => rw [hd] at hl; simp at hl
    | cons c r =>
      subst hd; have e : (((⟨(c :: r).toArray⟩ : ByteArray)[0]'h).toNat : Int) = (c.toNat : Int) := rfl; rw [e] at he; have := (Dec.dec_head n.natAbs c r hDG (by omega)).2; subst this; simp at hl
  have hDB : ∀ i (h : i < (⟨DG.toArray⟩ : ByteArray).size), 48 ≤ (((⟨DG.toArray⟩ : ByteArray)[i]'h).toNat : Int) ∧ (((⟨DG.toArray⟩ : ByteArray)[i]'h).toNat : Int) ≤ 57 := by
    intro i h; have h2 : i < DG.length := by have : i < DG.toArray.size := h; simpa using this
    have e : ((⟨DG.toArray⟩ : ByteArray)[i]'h) = DG[i] := rfl; rw [e]; have := hB DG[i] (List.getElem_mem h2); omega
  have hsz : (⟨DG.toArray⟩ : ByteArray).size = DG.length := by show DG.toArray.size = _; simp
  have hle : DG.length ≤ 21 := by
    have : DG.length ≤ S.length := by
      rw [← hT]; unfold Lib.trimPrefix
      split
      · simp
      · exact Nat.le_refl _
    omega
  have HD0 := Lib.hid hD0; have HDB := Lib.hid hDB; clear hT hS hA hB hN hDG hD0 hDB
  go_enter Tryd.func57, Tryd.ntmps57
  go_wp2_with fail
  refine HT.out.mono ?_; rintro e w' ⟨rfl, rfl⟩; clear HT
  by_cases hl : 1 < DG.length
  · have hlz : (1 : Int) < (DG.length : Int) := by omega
    have hd0 := HD0.out hl (by omega); have hd1 : ((((⟨DG.toArray⟩ : ByteArray)[0]'(by omega)).toNat : Int) == 48) = false := by simpa using hd0
    go_wp2
    go_loopw [28] (fun i wr => ∃ k : Nat, k ≤ DG.length ∧ i = .int .i64 k ∧ wr = w') (fun i _ => DG.length - (intOf i).toNat)
    case atStart => exact ⟨0, Nat.zero_le _, rfl, rfl⟩
    case round =>
      obtain ⟨k, hk, rfl, rfl⟩ := hrel
      by_cases hlt : k < DG.length
      · obtain ⟨b1, b2⟩ := HDB.out k (by omega); go_wp2; go_roundw
        case rel => exact ⟨k + 1, by omega, by go_num, by first | rfl | trivial⟩
        case measure => simp [intOf]; omega
      · obtain rfl : k = DG.length := by omega
        go_wp2_with fail
        refine (HAT.out _).mono ?_; rintro e w1 ⟨rfl, hw1⟩; have hb1 : Below wr.heap.size wr w1 := by
          rcases hw1 with rfl | ⟨t, rfl⟩
          · exact Below.refl _ _
          · exact below_bytesWorld _ _ _
        clear hw1; have hn1 : ¬ 1152921504606846976 < n := by omega
        have hn2 : ¬ n < -1152921504606846976 := by omega
        go_wp2; refine bodyPost_ret (v := .tuple #[.int .i64 n, .int .i64 0]) (by simp [results, Tryd.results57, go_sem]) rfl ⟨rfl, hb1⟩
  · have hlz : ¬ (1 : Int) < (DG.length : Int) := by omega
    go_wp2
    go_loopw [28] (fun i wr => ∃ k : Nat, k ≤ DG.length ∧ i = .int .i64 k ∧ wr = w') (fun i _ => DG.length - (intOf i).toNat)
    case atStart => exact ⟨0, Nat.zero_le _, rfl, rfl⟩
    case round =>
      obtain ⟨k, hk, rfl, rfl⟩ := hrel
      by_cases hlt : k < DG.length
      · obtain ⟨b1, b2⟩ := HDB.out k (by omega); go_wp2; go_roundw
        case rel => exact ⟨k + 1, by omega, by go_num, by first | rfl | trivial⟩
        case measure => simp [intOf]; omega
      · obtain rfl : k = DG.length := by omega
        go_wp2_with fail
        refine (HAT.out _).mono ?_; rintro e w1 ⟨rfl, hw1⟩; have hb1 : Below wr.heap.size wr w1 := by
          rcases hw1 with rfl | ⟨t, rfl⟩
          · exact Below.refl _ _
          · exact below_bytesWorld _ _ _
        clear hw1; have hn1 : ¬ 1152921504606846976 < n := by omega
        have hn2 : ¬ n < -1152921504606846976 := by omega
        go_wp2; refine bodyPost_ret (v := .tuple #[.int .i64 n, .int .i64 0]) (by simp [results, Tryd.results57, go_sem]) rfl ⟨rfl, hb1⟩
end Go.Proofs.YtinogphhbbaobaaDoor
