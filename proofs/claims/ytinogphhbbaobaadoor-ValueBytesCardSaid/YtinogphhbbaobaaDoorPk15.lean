/-
  graticuleref10.Print of a right value. graticuleref07.Zig. graticuleref07.Bytes. graticuleref08.Low, Bytes. graticuleref10.Bytes of a right value. graticuleref09.Runes.
-/
import Derived.Test.YtinogphhbbaobaaDoorPk14
import Derived.Test.YtinogphhbbaobaaDoorPk10
import Derived.Test.YtinogphhbbaobaaDoorPk12
import Derived.Test.YtinogphhbbaobaaDoorPk13
import Derived.Test.YtinogphhbbaobaaDoorProg
import Derived.Test.YtinogphhbbaobaaDoorPk1
import Derived.Test.YtinogphhbbaobaaDoorPk2
import Derived.Test.YtinogphhbbaobaaDoorPk8
import Derived.Test.YtinogphhbbaobaaDoorPk7
import Derived.Lib.ConvBytes
import Derived.Test.YtinogphhbbaobaaDoorPk9
import Derived.BigRegion
import Derived.RegionTactic
import Derived.Test.YtinogphhbbaobaaDoorPk6
import Derived.Test.YtinogphhbbaobaaDoorPk11
import Derived.Test.YtinogphhbbaobaaDoorPk5
/- graticuleref10.Print of a right value. -/
set_option linter.unusedVariables false
set_option linter.unusedSimpArgs false
set_option maxRecDepth 100000
namespace Go.Proofs.YtinogphhbbaobaaDoor
open Go.RowKit

set_option maxHeartbeats 4000000 in
theorem rprint_good (v : VV) (hE : vE v = 0) (w : World) :
    Calls Tryd.prog 21 #[vVal v] w fun e w' => e = .returned (.string (prnF v)) ∧ Below w.heap.size w w' := by
  have hz := vE_zero v hE; have hri := vE_right v hE; obtain ⟨k, t, n⟩ := v; dsimp only at hz hri; dsimp only [vVal]; have hb0 := Below.new w (.cells #[.int .i64 k, .string t, .int .i64 n] 39); have k0 := Blk.lit w w.heap.size [.int .i64 k, .string t, .int .i64 n] 39 rfl; have x0 := k0.cell 0 rfl; have x1 := k0.cell 1 rfl; have x2 := k0.cell 2 rfl; have HP := Lib.hid (prnF.eq_1 (k, t, n)); dsimp only at HP; generalize prnF (k, t, n) = PV at *; clear hE k0
  go_enter Tryd.func21, Tryd.ntmps21
  rcases hz with ⟨rfl, rfl, h3⟩ | ⟨rfl, rfl, h3, h4⟩ | ⟨rfl, rfl, h3, h4⟩ | ⟨rfl, rfl, h3, h4⟩
  · have HQ := Lib.hid (fun W => rquote_any t (by omega) W); have HR := Lib.hid (hri rfl)
    go_wp2_with fail
    refine (HQ.out _).mono ?_; rintro e w2 ⟨rfl, hb2⟩; have hbz := hb0.trans (hb2.mono hb0.size); rw [rquote_eq t HR.out]; clear hb2; go_wp2; refine bodyPost_ret (v := .string ⟨(quoteF t).toArray⟩) (by simp [results, Tryd.results21, go_sem]) rfl ⟨by rw [HP.out]; simp, hbz⟩
  · go_wp2_with fail
    refine (rdigits_any n (by omega) (by omega) _).mono ?_; rintro e w2 ⟨rfl, rfl⟩; have hlen : ¬ 9223372036854775807 < 1 + (Lib.itoa n).length := by have := Lib.itoa_length_le n (by omega) (by omega); omega
    go_wp2; refine bodyPost_ret (v := .string (⟨#[117]⟩ ++ ⟨(Lib.itoa n).toArray⟩)) (by simp [results, Tryd.results21, go_sem]) rfl ⟨by rw [HP.out]; simp, hb0⟩
  · by_cases hn : n < 0
    · go_wp2_with fail
      refine (rdigits_any n (by omega) (by omega) _).mono ?_; rintro e w2 ⟨rfl, rfl⟩; go_wp2; refine bodyPost_ret (v := .string ⟨(Lib.itoa n).toArray⟩) (by simp [results, Tryd.results21, go_sem]) rfl ⟨by rw [HP.out]; simp; try (intro h; exfalso; omega), hb0⟩
    · go_wp2_with fail
      refine (rdigits_any n (by omega) (by omega) _).mono ?_; rintro e w2 ⟨rfl, rfl⟩; have hlen : ¬ 9223372036854775807 < 1 + (Lib.itoa n).length := by have := Lib.itoa_length_le n (by omega) (by omega); omega
      have hnn : 0 ≤ n := by omega
      go_wp2; refine bodyPost_ret (v := .string (⟨#[43]⟩ ++ ⟨(Lib.itoa n).toArray⟩)) (by simp [results, Tryd.results21, go_sem]) rfl ⟨by rw [HP.out]; simp [hnn], hb0⟩
  · rcases (by omega : n = 0 ∨ n = 1) with rfl | rfl
    · go_wp2; refine bodyPost_ret (v := .string ⟨#[110, 111]⟩) (by simp [results, Tryd.results21, go_sem]) rfl ⟨by rw [HP.out]; simp, hb0⟩
    · go_wp2; refine bodyPost_ret (v := .string ⟨#[121, 101, 115]⟩) (by simp [results, Tryd.results21, go_sem]) rfl ⟨by rw [HP.out]; simp, hb0⟩
end Go.Proofs.YtinogphhbbaobaaDoor
/- graticuleref07.Zig. -/
namespace Go.Proofs.YtinogphhbbaobaaDoor
open Go.RowKit Go.Vint

theorem rzig_any (n : Int) (h0 : -9223372036854775808 ≤ n) (h1 : n ≤ 9223372036854775807) (w : World) :
    Calls Tryd.prog 38 #[.int .i64 n] w fun e w' => e = .returned (.int .u64 (zig n)) ∧ w = w' := by
  by_cases hn : n < 0
  · have HZ : Hid (zig n = -2 * n - 1) := by show _ = _; unfold zig; rw [if_pos hn]
    go_enter Tryd.func38, Tryd.ntmps38
    go_wp2; go_ret; exact ⟨ret_int (by rw [HZ.out]; omega), rfl⟩
  · have HZ : Hid (zig n = 2 * n) := by show _ = _; unfold zig; rw [if_neg hn]
    go_enter Tryd.func38, Tryd.ntmps38
    go_wp2; go_ret; exact ⟨ret_int (by rw [HZ.out]), rfl⟩
end Go.Proofs.YtinogphhbbaobaaDoor
/- graticuleref07.Bytes. -/
namespace Go.Proofs.YtinogphhbbaobaaDoor
open Go.RowKit Go.Vint

theorem rbytes_any : ∀ (k : Nat) (n : Int), n.toNat ≤ k → 0 ≤ n → n ≤ 18446744073709551615 → ∀ (w : World),
    Calls Tryd.prog 59 #[.int .u64 n] w fun e w' => ∃ v, e = .returned v ∧ w'.ownsRow w.heap.size 5 1 v (vb n).length ((vb n).map (Value.int .u8)) ∧ Below w.heap.size w w' := by
  intro k
  induction k with
  | zero =>
    intro n hk h0 h1 w; have hlt : n < 128 := by omega
    have HV : Hid (vb n = [n]) := vb_lo hlt
    go_enter Tryd.func59, Tryd.ntmps59
    go_wp2; go_ret; rw [HV.out]; exact ⟨_, rfl, ownsRow_lit w _ 1 1 [.int .u8 n] rfl (by decide), Below.new w _⟩
  | succ k ih =>
    intro n hk h0 h1 w
    by_cases hlt : n < 128
    · have HV : Hid (vb n = [n]) := vb_lo hlt; clear ih
      go_enter Tryd.func59, Tryd.ntmps59
      go_wp2; go_ret; rw [HV.out]; exact ⟨_, rfl, ownsRow_lit w _ 1 1 [.int .u8 n] rfl (by decide), Below.new w _⟩
    · have HV : Hid (vb n = (128 + n % 128) :: vb (n / 128)) := vb_hi hlt; have hc := ih (n / 128) (by omega) (by omega) (by omega) (w.alloc (.cells #[.int .u8 (128 + n % 128)] 5)); have HC := Lib.hid hc; have hl := vb_len10 (n / 128) (by omega); clear ih hc
      go_enter Tryd.func59, Tryd.ntmps59
      go_wp2_with fail
      refine HC.out.mono ?_; rintro e w1 ⟨v, rfl, hown, hb⟩; obtain ⟨a, c, rfl, -, -, hz, hr, -⟩ := hown.form; have ho := (ownsRow_lit w 5 1 1 [.int .u8 (128 + n % 128)] rfl (by decide)).below hb; have hb1 : Below w.heap.size w w1 := (Below.new w _).trans (hb.mono (by simp)); clear hown hb
      go_wp2_with (at_builtin; go_must (refine wpList_app' w hb1 rfl (.tmp 12) (.tmp 15) 25 rfl 5 (.int .u8 0) 1 1 Tryd.underlying25 Tryd.infoU8 rfl (by decide) _ 1 [.int .u8 (128 + n % 128)] rfl ho a (vb (n / 128)).length c ((vb (n / 128)).map (Value.int .u8)) rfl hz hr (by simp) (ints_one .u8 _) (by omega) (by decide) ?_); intro v2 w2 hown2 _ hb2)
      clear hb1 ho hr; go_wp2; go_ret; refine ⟨_, rfl, ?_, hb2⟩; rw [HV.out]; rw [Nat.add_comm 1] at hown2
      simpa using hown2
end Go.Proofs.YtinogphhbbaobaaDoor
/- graticuleref08.Low, Bytes. -/
set_option linter.unusedVariables false
set_option linter.unusedSimpArgs false
namespace Go
open Go.RowKit
theorem conv_str_bytes {P : Program} (w : World) (src dst e : TypeId) (hs : P.underlying src = some .string) (hd : P.underlying dst = some (.slice e)) (he : P.underlying e = some (.int .u8)) (bs : List Int) (hb : ∀ x ∈ bs, 0 ≤ x ∧ x ≤ 255) :
    ∃ c w', (convert src dst (.string (strOfNums bs))).run P w = .ok (.slice (some ⟨w.heap.size, 0, none⟩) bs.length c) w' ∧ Rd w' (some ⟨w.heap.size, 0, none⟩) (bs.map (Value.int .u8)) ∧ Below w.heap.size w w' := by
  refine ⟨grownCap w (strOfNums bs).size 0 e, Lib.bytesWorld w e (strOfNums bs), ?_, ?_, ?_⟩
  · rw [Lib.run_convert_string_bytes w src dst e _ hs hd he, strOfNums_size]
  · refine .inr ⟨_, _, rfl, fun i v hv => ?_⟩; have hi : i < bs.length := by simpa using (List.getElem?_eq_some_iff.1 hv).1
    rw [Nat.zero_add, Lib.bytesWorld_cell w e _ i (by rw [strOfNums_size]; exact hi), ← hv, strOfNums_data]; have hx := hb bs[i] (List.getElem_mem hi); simp [List.getD, hi]; omega
  · refine ⟨rfl, rfl, rfl, by rw [Lib.bytesWorld_size]; omega, fun k hk => Lib.bytesWorld_at_old w e _ k hk⟩
end Go
namespace Go.Proofs.YtinogphhbbaobaaDoor
open Go.RowKit Go.Vint Go.Proto

set_option maxHeartbeats 2000000 in
theorem rlow_any (n : Int) (s : Nat) (hs : s ≤ 8) (hn : 0 ≤ n ∧ n ≤ 18446744073709551615) (w : World) :
    Calls Tryd.prog 60 #[.int .u64 n, .int .i64 s] w fun e w' => ∃ v, e = .returned v ∧ w'.ownsRow w.heap.size 5 1 v s ((low n s).map (Value.int .u8)) ∧ Below w.heap.size w w' := by
  go_enter Tryd.func60, Tryd.ntmps60
  go_wp2
  go_loopw [0, 5, 6] (fun z o i wr => ∃ (k : Nat) (m : Int) (A : List Int), k ≤ s ∧ i = .int .i64 k ∧ z = .int .u64 m ∧ 0 ≤ m ∧ m ≤ 18446744073709551615 ∧ A.length = k ∧ A ++ low m (s - k) = low n s ∧ wr.ownsRow w.heap.size 5 1 o k (A.map (Value.int .u8)) ∧ Below w.heap.size w wr) (fun _ _ i _ => s - (intOf i).toNat)
  case atStart => exact ⟨0, n, [], Nat.zero_le _, rfl, rfl, hn.1, hn.2, rfl, rfl, World.ownsRow_nil _ _ _ _, Below.refl _ _⟩
  case round =>
    obtain ⟨k, m, A, hk, rfl, rfl, hm0, hm1, hA, hL, hown, hbl⟩ := hrel; have HL := Lib.hid hL; have HA := Lib.hid hA; clear hL hA
    by_cases hlt : k < s
    · have hst : Hid ((A ++ [m % 256]) ++ low (m / 256) (s - (k + 1)) = low n s) := by
        refine Lib.hid ?_; rw [← HL.out, show s - k = (s - (k + 1)) + 1 by omega, low]; simp
      go_wp2_with (at_builtin; go_must (refine wpList_appLit' w hbl rfl (.tmp 12) (.tmp 16) 25 rfl 5 (.int .u8 0) 1 1 Tryd.underlying25 Tryd.infoU8 rfl (by decide) (by decide) u5 k (A.map (Value.int .u8)) rfl hown 1 1 [.int .u8 (m % 256)] _ rfl rfl (ints_one .u8 [_]) (by omega) ?_); intro v2 w2 hown2 _ hbl2; clear hown hbl)
      go_roundw
      case rel => exact ⟨k + 1, m / 256, A ++ [m % 256], by omega, by go_num, rfl, by omega, by omega, by simp [HA.out], hst.out, by simpa using hown2, hbl2⟩
      case measure => simp [intOf]; omega
    · obtain rfl : k = s := by omega
      have hAe : A = low n k := by
        have := HL.out
        simpa [low] using this
      rw [hAe] at hown; go_wp2; go_ret; exact ⟨_, rfl, hown, hbl⟩

set_option maxHeartbeats 4000000 in
theorem rfby_any (f : Fld) (hck : chk f = 0) (hxb : Byt f) (hn : 0 ≤ f.n ∧ f.n ≤ 18446744073709551615) (hbsl : f.bs.length ≤ 1000000) (w : World) :
    Calls Tryd.prog 39 #[.agg (rcells f).toArray] w fun e w' => ∃ v, e = .returned v ∧ w'.ownsRow w.heap.size 5 1 v (fby f).length ((fby f).map (Value.int .u8)) ∧ Below w.heap.size w w' := by
  obtain ⟨num, kind, n, bs⟩ := f; obtain ⟨hn0, hn1⟩ := hn; dsimp only [rcells] at *; obtain ⟨k0, k1, k2⟩ : 1 ≤ num ∧ num ≤ 536870911 ∧ (kind = 0 ∨ kind = 1 ∨ kind = 2 ∨ kind = 5) := by
    unfold chk at hck; dsimp only at hck
    split at hck
    · omega
    · split at hck
      · omega
      · omega
  clear hck; obtain ⟨KB, hKB⟩ : ∃ KB, KB = vb (8 * num + kind) := ⟨_, rfl⟩; have hKl : KB.length ≤ 10 := by rw [hKB]; exact vb_len10 _ (by omega)
  obtain ⟨TB, hTB⟩ : ∃ TB, TB = tail ⟨num, kind, n, bs⟩ := ⟨_, rfl⟩; have HF : Hid (fby ⟨num, kind, n, bs⟩ = KB ++ TB) := by
    refine Lib.hid ?_; rw [hKB, hTB]; rfl
  have hTl : TB.length ≤ bs.length + 10 := by
    rw [hTB]; have h2 := vb_len10 n hn1; have h3 := vb_len10 (bs.length : Int) (by omega); unfold tail; dsimp only
    split
    · omega
    · split
      · rw [low_len]; omega
      · split
        · rw [low_len]; omega
        · rw [List.length_append]; omega
  obtain ⟨F, hF⟩ : ∃ F, fby ⟨num, kind, n, bs⟩ = F := ⟨_, rfl⟩; rw [hF] at HF ⊢; have hsz : (strOfNums bs).size = bs.length := strOfNums_size bs; have hvk := rbytes_any (8 * num + kind).toNat (8 * num + kind) (Nat.le_refl _) (by omega) (by omega) (w.alloc (.cells #[.int .i64 num, .int .i64 kind, .int .u64 n, .string (strOfNums bs)] 78)); rw [← hKB] at hvk; have HVK := Lib.hid hvk; have TBk := Lib.hid hTB; clear hF hKB hTB hvk
  go_enter Tryd.func39, Tryd.ntmps39
  go_wp2_with fail
  refine HVK.out.mono ?_; rintro e w2 ⟨v2, rfl, hv2, hb2⟩; obtain ⟨a2, e2, rfl, -, -, ha2, hr2, -⟩ := hv2.form; have hX2 := (BlkT.new w [.int .i64 num, .int .i64 kind, .int .u64 n, .string (strOfNums bs)] 78).keep hb2; have hown2 := hv2.mono (base' := w.heap.size) (by simp); have hbl2 : Below w.heap.size w w2 := (Below.new w _).trans (hb2.mono (by simp)); have x1 := hX2.cell 1 rfl; have x2 := hX2.cell 2 rfl; have x3 := hX2.cell 3 rfl; clear HVK hv2 hb2 hr2
  rcases k2 with rfl | rfl | rfl | rfl
  · have hvk := rbytes_any n.toNat n (Nat.le_refl _) hn0 hn1 w2; rw [show vb n = TB by rw [TBk.out]; simp [tail]] at hvk; have HVK := Lib.hid hvk; clear hvk
    go_wp2_with fail
    refine HVK.out.mono ?_; rintro e w4 ⟨v4, rfl, hv4, hb4⟩; obtain ⟨a4, e4, rfl, -, -, ha4, hr4, -⟩ := hv4.form; have hown4 := hown2.below hb4; have hbl4 := hbl2.trans (hb4.mono hbl2.size); clear HVK hown2 hbl2 hb4 hv4
    go_wp2_with (at_builtin; go_must (refine wpList_app' w hbl4 rfl (.tmp 17) (.tmp 20) 25 rfl 5 (.int .u8 0) 1 1 Tryd.underlying25 Tryd.infoU8 rfl (by decide) (.slice a2 KB.length e2) KB.length (KB.map (Value.int .u8)) rfl hown4 a4 TB.length e4 (TB.map (Value.int .u8)) rfl ha4 hr4 (by simp) (ints_one .u8 _) (by omega) (by decide) ?_); intro v5 w5 hown5 hg5 hbl5; clear hown4 hbl4 hg5 hr4 hX2 x1 x2 x3)
    go_ret; refine ⟨_, rfl, ?_, hbl5⟩; rw [HF.out, List.length_append, List.map_append]; exact hown5
  · have hTl4 : TB.length = 8 := by rw [TBk.out]; simp [tail, low_len]
    have hvk := rlow_any n 8 (by omega) ⟨hn0, hn1⟩ w2; rw [show low n 8 = TB by rw [TBk.out]; simp [tail]] at hvk; have HVK := Lib.hid hvk; have HT4 := Lib.hid hTl4; clear hvk hTl4
    go_wp2_with fail
    refine HVK.out.mono ?_; rintro e w4 ⟨v4, rfl, hv4, hb4⟩; rw [← HT4.out] at hv4; obtain ⟨a4, e4, rfl, -, -, ha4, hr4, -⟩ := hv4.form; have hown4 := hown2.below hb4; have hbl4 := hbl2.trans (hb4.mono hbl2.size); clear HVK hown2 hbl2 hb4 hv4
    go_wp2_with (at_builtin; go_must (refine wpList_app' w hbl4 rfl (.tmp 24) (.tmp 27) 25 rfl 5 (.int .u8 0) 1 1 Tryd.underlying25 Tryd.infoU8 rfl (by decide) (.slice a2 KB.length e2) KB.length (KB.map (Value.int .u8)) rfl hown4 a4 TB.length e4 (TB.map (Value.int .u8)) rfl ha4 hr4 (by simp) (ints_one .u8 _) (by omega) (by decide) ?_); intro v5 w5 hown5 hg5 hbl5; clear hown4 hbl4 hg5 hr4 hX2 x1 x2 x3)
    go_ret; refine ⟨_, rfl, ?_, hbl5⟩; rw [HF.out, List.length_append, List.map_append]; exact hown5
  · have hvk := rbytes_any (bs.length : Int).toNat (bs.length : Int) (Nat.le_refl _) (by omega) (by omega) w2; obtain ⟨LB, hLB⟩ : ∃ LB, LB = vb (bs.length : Int) := ⟨_, rfl⟩; rw [← hLB] at hvk; have HVK := Lib.hid hvk; have hTB2 : TB = LB ++ bs := by rw [TBk.out, hLB]; simp [tail]
    have HTB2 := Lib.hid hTB2; have hLl : LB.length ≤ 10 := by rw [hLB]; exact vb_len10 _ (by omega)
    clear hvk hTB2 hLB
    go_wp2_with fail
    refine HVK.out.mono ?_; rintro e w4 ⟨v4, rfl, hv4, hb4⟩; obtain ⟨a4, e4, rfl, -, -, ha4, hr4, -⟩ := hv4.form; have hown4 := hown2.below hb4; have hbl4 := hbl2.trans (hb4.mono hbl2.size); have hX4 := hX2.keep hb4; have hne4 := hX4.not_row (by decide) hown4; clear HVK hown2 hbl2 hb4 hv4 hX2 x1 x2 x3
    go_wp2_with (first
      | (at_builtin; refine wpList_app' w hbl4 rfl (.tmp 36) (.tmp 41) 25 rfl 5 (.int .u8 0) 1 1 Tryd.underlying25 Tryd.infoU8 rfl (by decide) (.slice a2 KB.length e2) (KB.length) (KB.map (Value.int .u8)) rfl hown4 a4 LB.length e4 (LB.map (Value.int .u8)) rfl ha4 hr4 (by simp) (ints_one .u8 _) (by omega) (by decide) ?_; intro v5 w5 hown5 hg5 hbl5; have hX5 := hX4.grown hg5 hne4; have y3 := hX5.cell 3 rfl; obtain ⟨c6, w6, hcv, hr6, hb6⟩ := conv_str_bytes (P := Tryd.prog) w5 9 25 5 Tryd.underlying9 Tryd.underlying25 Tryd.underlying5 bs hxb; have hown6 := hown5.below hb6; have hbl6 := hbl5.trans (hb6.mono hbl5.size); clear hown4 hbl4 hg5 hr4 hX4 hX5 hown5 hbl5 hb6)
      | (at_builtin; refine wpList_app' w hbl6 rfl (.tmp 43) (.tmp 46) 25 rfl 5 (.int .u8 0) 1 1 Tryd.underlying25 Tryd.infoU8 rfl (by decide) v5 (KB.length + LB.length) (KB.map (Value.int .u8) ++ LB.map (Value.int .u8)) rfl hown6 (some ⟨w5.heap.size, 0, none⟩) bs.length c6 (bs.map (Value.int .u8)) rfl (fun h => by cases h) hr6 (by simp) (ints_one .u8 _) (by omega) (by decide) ?_; intro v7 w7 hown7 hg7 hbl7; clear hown6 hbl6 hg7 hr6 hcv y3))
    go_ret; refine ⟨_, rfl, ?_, hbl7⟩; rw [HF.out, HTB2.out]
    simpa [Nat.add_assoc] using hown7
  · have hTl4 : TB.length = 4 := by rw [TBk.out]; simp [tail, low_len]
    have hvk := rlow_any n 4 (by omega) ⟨hn0, hn1⟩ w2; rw [show low n 4 = TB by rw [TBk.out]; simp [tail]] at hvk; have HVK := Lib.hid hvk; have HT4 := Lib.hid hTl4; clear hvk hTl4
    go_wp2_with fail
    refine HVK.out.mono ?_; rintro e w4 ⟨v4, rfl, hv4, hb4⟩; rw [← HT4.out] at hv4; obtain ⟨a4, e4, rfl, -, -, ha4, hr4, -⟩ := hv4.form; have hown4 := hown2.below hb4; have hbl4 := hbl2.trans (hb4.mono hbl2.size); clear HVK hown2 hbl2 hb4 hv4
    go_wp2_with (at_builtin; go_must (refine wpList_app' w hbl4 rfl (.tmp 31) (.tmp 34) 25 rfl 5 (.int .u8 0) 1 1 Tryd.underlying25 Tryd.infoU8 rfl (by decide) (.slice a2 KB.length e2) KB.length (KB.map (Value.int .u8)) rfl hown4 a4 TB.length e4 (TB.map (Value.int .u8)) rfl ha4 hr4 (by simp) (ints_one .u8 _) (by omega) (by decide) ?_); intro v5 w5 hown5 hg5 hbl5; clear hown4 hbl4 hg5 hr4 hX2 x1 x2 x3)
    go_ret; refine ⟨_, rfl, ?_, hbl5⟩; rw [HF.out, List.length_append, List.map_append]; exact hown5
end Go.Proofs.YtinogphhbbaobaaDoor
/- graticuleref10.Bytes of a right value. -/
set_option linter.unusedVariables false
set_option linter.unusedSimpArgs false
set_option maxRecDepth 100000
namespace Go.Proofs.YtinogphhbbaobaaDoor
open Go.RowKit Go.Vint Go.Proto
set_option maxHeartbeats 8000000 in
theorem rvby_any (v : VV) (hE : vE v = 0) (w : World) :
    Calls Tryd.prog 20 #[vVal v] w fun e w' => ∃ x, e = .returned x ∧ w'.ownsRow w.heap.size 5 1 x (fby (vFld v)).length ((fby (vFld v)).map (Value.int .u8)) ∧ Below w.heap.size w w' := by
  have hz := vE_zero v hE; obtain ⟨h1, h2, h3, h4, h5⟩ := vFld_ok v hE; have HF := Lib.hid (fun W => rfby_any (vFld v) h1 h4 ⟨h2, h3⟩ (by omega) W); have HRC : Hid (rcells (vFld v) = [.int .i64 (vFld v).num, .int .i64 (vFld v).kind, .int .u64 (vFld v).n, .string (strOfNums (vFld v).bs)]) := Lib.hid rfl; rw [HRC.out] at HF; obtain ⟨k, t, n⟩ := v; dsimp only at hz; dsimp only [vVal]; have hV := vFld.eq_1 (k, t, n); dsimp only at hV; obtain ⟨FB, hFB⟩ : ∃ x, fby (vFld (k, t, n)) = x := ⟨_, rfl⟩; rw [hFB] at HF ⊢; generalize vFld (k, t, n) = FL at *; obtain ⟨B, hB⟩ : ∃ B, w.heap.size = B := ⟨_, rfl⟩; have HBQ := Lib.hid hB; have hb0 := Below.new w (.cells #[.int .i64 k, .string t, .int .i64 n] 39); have k0 := Blk.lit w B [.int .i64 k, .string t, .int .i64 n] 39 hB; have hwA : (w.alloc (.cells #[.int .i64 k, .string t, .int .i64 n] 39)).heap.size = B + 1 := by simp [hB]
  clear hE HRC hFB h1 h2 h3 h4 h5
  go_enter Tryd.func20, Tryd.ntmps20
  go_wp2; generalize w.alloc (.cells #[.int .i64 k, .string t, .int .i64 n] 39) = wA at *; have x0 := k0.cell 0 rfl; have x2 := k0.cell 2 rfl; have hs0 := hb0.size; have hB1 : B < wA.heap.size := by omega
  have hB2 : B ≠ wA.heap.size := by omega
  have hB3 : B ≠ wA.heap.size + 1 := by omega
  clear hB
  rcases hz with ⟨rfl, rfl, g3⟩ | ⟨rfl, rfl, g3, g4⟩ | ⟨rfl, rfl, g3, g4⟩ | ⟨rfl, rfl, g3, g4⟩
  · rw [if_pos rfl] at hV; subst hV; dsimp only at HF; rw [strOfNums_bnums] at HF
    go_region
    · have kV := ((k0.alloc (.cells #[.int .i64 1, .int .i64 5, .int .i64 6, .int .i64 7] 3)).alloc (.cells #[.int .i64 1, .int .i64 0, .int .u64 0, .string ⟨#[]⟩] 78)).drew; have kF := (Blk.lit (wA.alloc (.cells #[.int .i64 1, .int .i64 5, .int .i64 6, .int .i64 7] 3)) (B + 1 + 1) [.int .i64 1, .int .i64 0, .int .u64 0, .string ⟨#[]⟩] 78 (by simp [hwA])).drew; have hbz := ((hb0.alloc hs0 (.cells #[.int .i64 1, .int .i64 5, .int .i64 6, .int .i64 7] 3)).alloc (by simp; omega) (.cells #[.int .i64 1, .int .i64 0, .int .u64 0, .string ⟨#[]⟩] 78)).drew; have hsz : B + 1 + 1 < ((wA.alloc (.cells #[.int .i64 1, .int .i64 5, .int .i64 6, .int .i64 7] 3)).alloc (.cells #[.int .i64 1, .int .i64 0, .int .u64 0, .string ⟨#[]⟩] 78)).drew.heap.size := by simp [hwA]
      generalize ((wA.alloc (.cells #[.int .i64 1, .int .i64 5, .int .i64 6, .int .i64 7] 3)).alloc (.cells #[.int .i64 1, .int .i64 0, .int .u64 0, .string ⟨#[]⟩] 78)).drew = Z at *; obtain ⟨PF, hPF⟩ : ∃ p, B + 1 + 1 = p := ⟨_, rfl⟩; rw [hPF] at kF; have hVF : B ≠ PF := by omega
      have hWF : w.heap.size ≤ PF := by rw [HBQ.out]; omega
      rw [hPF]; clear hPF k0 x0 x2 hwA hB1 hB2 hB3; have v0 := kV.cell 0 rfl; have v1 := kV.cell 1 rfl; have c1 := kF.cell 1 rfl; have f1 := kF.free 1; have c2 := kF.cell 2 rfl; have f2 := kF.free 2; have c3 := kF.cell 3 rfl; have f3 := kF.free 3; have s3 := (((kF.set 1 (.int .i64 2)).set 2 (.int .u64 0)).set 3 (.string t)).drew; have kV3 := (((kV.set_at (o := 1) hVF (.int .i64 2)).set_at (o := 2) hVF (.int .u64 0)).set_at (o := 3) hVF (.string t)).drew; have u0 := kV3.cell 0 rfl; have hbz3 := (((hbz.set_at (b := PF) (o := 1) hWF (.int .i64 2)).set_at (b := PF) (o := 2) hWF (.int .u64 0)).set_at (b := PF) (o := 3) hWF (.string t)).drew; have q0 := s3.cell 0 rfl; have q1 := s3.cell 1 rfl; have q2 := s3.cell 2 rfl; have q3 := s3.cell 3 rfl; go_wp2
      go_region
      go_wp2_with fail
      refine (HF.out _).mono ?_; rintro e w3 ⟨x, rfl, hown, hb3⟩; have hbw3 := hbz3.trans (hb3.mono hbz3.size); have hown3 : w3.ownsRow w.heap.size _ _ _ _ _ := hown.mono hbz3.size; clear HF hown hb3; go_wp2; go_ret; exact ⟨x, rfl, hown3, hbw3⟩
    · have kV := ((k0.alloc (.cells #[.int .i64 1, .int .i64 0, .int .u64 0, .string ⟨#[]⟩] 78)).alloc (.cells #[.int .i64 1, .int .i64 5, .int .i64 6, .int .i64 7] 3)).drew; have kF := ((Blk.lit wA (B + 1) [.int .i64 1, .int .i64 0, .int .u64 0, .string ⟨#[]⟩] 78 hwA).alloc (.cells #[.int .i64 1, .int .i64 5, .int .i64 6, .int .i64 7] 3)).drew; have hbz := ((hb0.alloc hs0 (.cells #[.int .i64 1, .int .i64 0, .int .u64 0, .string ⟨#[]⟩] 78)).alloc (by simp; omega) (.cells #[.int .i64 1, .int .i64 5, .int .i64 6, .int .i64 7] 3)).drew; have hsz : B + 1 + 1 < ((wA.alloc (.cells #[.int .i64 1, .int .i64 0, .int .u64 0, .string ⟨#[]⟩] 78)).alloc (.cells #[.int .i64 1, .int .i64 5, .int .i64 6, .int .i64 7] 3)).drew.heap.size := by simp [hwA]
      generalize ((wA.alloc (.cells #[.int .i64 1, .int .i64 0, .int .u64 0, .string ⟨#[]⟩] 78)).alloc (.cells #[.int .i64 1, .int .i64 5, .int .i64 6, .int .i64 7] 3)).drew = Z at *; obtain ⟨PF, hPF⟩ : ∃ p, B + 1 = p := ⟨_, rfl⟩; rw [hPF] at kF; have hVF : B ≠ PF := by omega
      have hWF : w.heap.size ≤ PF := by rw [HBQ.out]; omega
      rw [hPF]; clear hPF k0 x0 x2 hwA hB1 hB2 hB3; have v0 := kV.cell 0 rfl; have v1 := kV.cell 1 rfl; have c1 := kF.cell 1 rfl; have f1 := kF.free 1; have c2 := kF.cell 2 rfl; have f2 := kF.free 2; have c3 := kF.cell 3 rfl; have f3 := kF.free 3; have s3 := (((kF.set 1 (.int .i64 2)).set 2 (.int .u64 0)).set 3 (.string t)).drew; have kV3 := (((kV.set_at (o := 1) hVF (.int .i64 2)).set_at (o := 2) hVF (.int .u64 0)).set_at (o := 3) hVF (.string t)).drew; have u0 := kV3.cell 0 rfl; have hbz3 := (((hbz.set_at (b := PF) (o := 1) hWF (.int .i64 2)).set_at (b := PF) (o := 2) hWF (.int .u64 0)).set_at (b := PF) (o := 3) hWF (.string t)).drew; have q0 := s3.cell 0 rfl; have q1 := s3.cell 1 rfl; have q2 := s3.cell 2 rfl; have q3 := s3.cell 3 rfl; go_wp2
      go_region
      go_wp2_with fail
      refine (HF.out _).mono ?_; rintro e w3 ⟨x, rfl, hown, hb3⟩; have hbw3 := hbz3.trans (hb3.mono hbz3.size); have hown3 : w3.ownsRow w.heap.size _ _ _ _ _ := hown.mono hbz3.size; clear HF hown hb3; go_wp2; go_ret; exact ⟨x, rfl, hown3, hbw3⟩
  · rw [if_neg (by decide), if_pos rfl] at hV; subst hV; dsimp only at HF; have hw : IntKind.u64.wrap n = n := IntWalk.u64_in _ ⟨g3, by omega⟩; have hsn : strOfNums [] = ⟨#[]⟩ := rfl; rw [hsn] at HF
    go_region
    · have kV := ((k0.alloc (.cells #[.int .i64 1, .int .i64 5, .int .i64 6, .int .i64 7] 3)).alloc (.cells #[.int .i64 5, .int .i64 0, .int .u64 n, .string ⟨#[]⟩] 78)).drew; have kF := (Blk.lit (wA.alloc (.cells #[.int .i64 1, .int .i64 5, .int .i64 6, .int .i64 7] 3)) (B + 1 + 1) [.int .i64 5, .int .i64 0, .int .u64 n, .string ⟨#[]⟩] 78 (by simp [hwA])).drew; have hbz := ((hb0.alloc hs0 (.cells #[.int .i64 1, .int .i64 5, .int .i64 6, .int .i64 7] 3)).alloc (by simp; omega) (.cells #[.int .i64 5, .int .i64 0, .int .u64 n, .string ⟨#[]⟩] 78)).drew; have hsz : B + 1 + 1 < ((wA.alloc (.cells #[.int .i64 1, .int .i64 5, .int .i64 6, .int .i64 7] 3)).alloc (.cells #[.int .i64 5, .int .i64 0, .int .u64 n, .string ⟨#[]⟩] 78)).drew.heap.size := by simp [hwA]
      generalize ((wA.alloc (.cells #[.int .i64 1, .int .i64 5, .int .i64 6, .int .i64 7] 3)).alloc (.cells #[.int .i64 5, .int .i64 0, .int .u64 n, .string ⟨#[]⟩] 78)).drew = Z at *; obtain ⟨PF, hPF⟩ : ∃ p, B + 1 + 1 = p := ⟨_, rfl⟩; rw [hPF] at kF; have hVF : B ≠ PF := by omega
      have hWF : w.heap.size ≤ PF := by rw [HBQ.out]; omega
      rw [hPF]; clear hPF k0 x0 x2 hwA hB1 hB2 hB3; have v0 := kV.cell 0 rfl; have q0 := kF.cell 0 rfl; have q1 := kF.cell 1 rfl; have q2 := kF.cell 2 rfl; have q3 := kF.cell 3 rfl; have hbz3 := hbz
      go_wp2_with fail
      refine (HF.out _).mono ?_; rintro e w3 ⟨x, rfl, hown, hb3⟩; have hbw3 := hbz3.trans (hb3.mono hbz3.size); have hown3 : w3.ownsRow w.heap.size _ _ _ _ _ := hown.mono hbz3.size; clear HF hown hb3; go_wp2; go_ret; exact ⟨x, rfl, hown3, hbw3⟩
    · have kV := ((k0.alloc (.cells #[.int .i64 5, .int .i64 0, .int .u64 n, .string ⟨#[]⟩] 78)).alloc (.cells #[.int .i64 1, .int .i64 5, .int .i64 6, .int .i64 7] 3)).drew; have kF := ((Blk.lit wA (B + 1) [.int .i64 5, .int .i64 0, .int .u64 n, .string ⟨#[]⟩] 78 hwA).alloc (.cells #[.int .i64 1, .int .i64 5, .int .i64 6, .int .i64 7] 3)).drew; have hbz := ((hb0.alloc hs0 (.cells #[.int .i64 5, .int .i64 0, .int .u64 n, .string ⟨#[]⟩] 78)).alloc (by simp; omega) (.cells #[.int .i64 1, .int .i64 5, .int .i64 6, .int .i64 7] 3)).drew; have hsz : B + 1 + 1 < ((wA.alloc (.cells #[.int .i64 5, .int .i64 0, .int .u64 n, .string ⟨#[]⟩] 78)).alloc (.cells #[.int .i64 1, .int .i64 5, .int .i64 6, .int .i64 7] 3)).drew.heap.size := by simp [hwA]
      generalize ((wA.alloc (.cells #[.int .i64 5, .int .i64 0, .int .u64 n, .string ⟨#[]⟩] 78)).alloc (.cells #[.int .i64 1, .int .i64 5, .int .i64 6, .int .i64 7] 3)).drew = Z at *; obtain ⟨PF, hPF⟩ : ∃ p, B + 1 = p := ⟨_, rfl⟩; rw [hPF] at kF; have hVF : B ≠ PF := by omega
      have hWF : w.heap.size ≤ PF := by rw [HBQ.out]; omega
      rw [hPF]; clear hPF k0 x0 x2 hwA hB1 hB2 hB3; have v0 := kV.cell 0 rfl; have q0 := kF.cell 0 rfl; have q1 := kF.cell 1 rfl; have q2 := kF.cell 2 rfl; have q3 := kF.cell 3 rfl; have hbz3 := hbz
      go_wp2_with fail
      refine (HF.out _).mono ?_; rintro e w3 ⟨x, rfl, hown, hb3⟩; have hbw3 := hbz3.trans (hb3.mono hbz3.size); have hown3 : w3.ownsRow w.heap.size _ _ _ _ _ := hown.mono hbz3.size; clear HF hown hb3; go_wp2; go_ret; exact ⟨x, rfl, hown3, hbw3⟩
  · rw [if_neg (by decide), if_neg (by decide), if_pos rfl] at hV; subst hV; dsimp only at HF; have hsn : strOfNums [] = ⟨#[]⟩ := rfl; rw [hsn] at HF
    go_region
    · have kV := ((k0.alloc (.cells #[.int .i64 1, .int .i64 5, .int .i64 6, .int .i64 7] 3)).alloc (.cells #[.int .i64 6, .int .i64 0, .int .u64 (IntKind.u64.wrap n), .string ⟨#[]⟩] 78)).drew; have kF := (Blk.lit (wA.alloc (.cells #[.int .i64 1, .int .i64 5, .int .i64 6, .int .i64 7] 3)) (B + 1 + 1) [.int .i64 6, .int .i64 0, .int .u64 (IntKind.u64.wrap n), .string ⟨#[]⟩] 78 (by simp [hwA])).drew; have hbz := ((hb0.alloc hs0 (.cells #[.int .i64 1, .int .i64 5, .int .i64 6, .int .i64 7] 3)).alloc (by simp; omega) (.cells #[.int .i64 6, .int .i64 0, .int .u64 (IntKind.u64.wrap n), .string ⟨#[]⟩] 78)).drew; have hsz : B + 1 + 1 < ((wA.alloc (.cells #[.int .i64 1, .int .i64 5, .int .i64 6, .int .i64 7] 3)).alloc (.cells #[.int .i64 6, .int .i64 0, .int .u64 (IntKind.u64.wrap n), .string ⟨#[]⟩] 78)).drew.heap.size := by simp [hwA]
      generalize ((wA.alloc (.cells #[.int .i64 1, .int .i64 5, .int .i64 6, .int .i64 7] 3)).alloc (.cells #[.int .i64 6, .int .i64 0, .int .u64 (IntKind.u64.wrap n), .string ⟨#[]⟩] 78)).drew = Z at *; obtain ⟨PF, hPF⟩ : ∃ p, B + 1 + 1 = p := ⟨_, rfl⟩; rw [hPF] at kF; have hVF : B ≠ PF := by omega
      have hWF : w.heap.size ≤ PF := by rw [HBQ.out]; omega
      rw [hPF]; clear hPF k0 x0 x2 hwA hB1 hB2 hB3; have v0 := kV.cell 0 rfl; have v2 := kV.cell 2 rfl; have c2 := kF.cell 2 rfl; have f2 := kF.free 2; have s2 := kF.set 2 (.int .u64 (zig n)); have hbz3 := hbz.set_at (b := PF) (o := 2) hWF (.int .u64 (zig n))
      go_wp2_with fail
      refine (rzig_any n (by omega) (by omega) Z).mono ?_; rintro e w2 ⟨rfl, rfl⟩; have q0 := s2.cell 0 rfl; have q1 := s2.cell 1 rfl; have q2 := s2.cell 2 rfl; have q3 := s2.cell 3 rfl
      go_wp2_with fail
      refine (HF.out _).mono ?_; rintro e w3 ⟨x, rfl, hown, hb3⟩; have hbw3 := hbz3.trans (hb3.mono hbz3.size); have hown3 : w3.ownsRow w.heap.size _ _ _ _ _ := hown.mono hbz3.size; clear HF hown hb3; go_wp2; go_ret; exact ⟨x, rfl, hown3, hbw3⟩
    · have kV := ((k0.alloc (.cells #[.int .i64 6, .int .i64 0, .int .u64 (IntKind.u64.wrap n), .string ⟨#[]⟩] 78)).alloc (.cells #[.int .i64 1, .int .i64 5, .int .i64 6, .int .i64 7] 3)).drew; have kF := ((Blk.lit wA (B + 1) [.int .i64 6, .int .i64 0, .int .u64 (IntKind.u64.wrap n), .string ⟨#[]⟩] 78 hwA).alloc (.cells #[.int .i64 1, .int .i64 5, .int .i64 6, .int .i64 7] 3)).drew; have hbz := ((hb0.alloc hs0 (.cells #[.int .i64 6, .int .i64 0, .int .u64 (IntKind.u64.wrap n), .string ⟨#[]⟩] 78)).alloc (by simp; omega) (.cells #[.int .i64 1, .int .i64 5, .int .i64 6, .int .i64 7] 3)).drew; have hsz : B + 1 + 1 < ((wA.alloc (.cells #[.int .i64 6, .int .i64 0, .int .u64 (IntKind.u64.wrap n), .string ⟨#[]⟩] 78)).alloc (.cells #[.int .i64 1, .int .i64 5, .int .i64 6, .int .i64 7] 3)).drew.heap.size := by simp [hwA]
      generalize ((wA.alloc (.cells #[.int .i64 6, .int .i64 0, .int .u64 (IntKind.u64.wrap n), .string ⟨#[]⟩] 78)).alloc (.cells #[.int .i64 1, .int .i64 5, .int .i64 6, .int .i64 7] 3)).drew = Z at *; obtain ⟨PF, hPF⟩ : ∃ p, B + 1 = p := ⟨_, rfl⟩; rw [hPF] at kF; have hVF : B ≠ PF := by omega
      have hWF : w.heap.size ≤ PF := by rw [HBQ.out]; omega
      rw [hPF]; clear hPF k0 x0 x2 hwA hB1 hB2 hB3; have v0 := kV.cell 0 rfl; have v2 := kV.cell 2 rfl; have c2 := kF.cell 2 rfl; have f2 := kF.free 2; have s2 := kF.set 2 (.int .u64 (zig n)); have hbz3 := hbz.set_at (b := PF) (o := 2) hWF (.int .u64 (zig n))
      go_wp2_with fail
      refine (rzig_any n (by omega) (by omega) Z).mono ?_; rintro e w2 ⟨rfl, rfl⟩; have q0 := s2.cell 0 rfl; have q1 := s2.cell 1 rfl; have q2 := s2.cell 2 rfl; have q3 := s2.cell 3 rfl
      go_wp2_with fail
      refine (HF.out _).mono ?_; rintro e w3 ⟨x, rfl, hown, hb3⟩; have hbw3 := hbz3.trans (hb3.mono hbz3.size); have hown3 : w3.ownsRow w.heap.size _ _ _ _ _ := hown.mono hbz3.size; clear HF hown hb3; go_wp2; go_ret; exact ⟨x, rfl, hown3, hbw3⟩
  · rw [if_neg (by decide), if_neg (by decide), if_neg (by decide)] at hV; subst hV; dsimp only at HF; have hw : IntKind.u64.wrap n = n := IntWalk.u64_in _ ⟨g3, by omega⟩; have hsn : strOfNums [] = ⟨#[]⟩ := rfl; rw [hsn] at HF
    go_region
    · have kV := ((k0.alloc (.cells #[.int .i64 1, .int .i64 5, .int .i64 6, .int .i64 7] 3)).alloc (.cells #[.int .i64 7, .int .i64 0, .int .u64 n, .string ⟨#[]⟩] 78)).drew; have kF := (Blk.lit (wA.alloc (.cells #[.int .i64 1, .int .i64 5, .int .i64 6, .int .i64 7] 3)) (B + 1 + 1) [.int .i64 7, .int .i64 0, .int .u64 n, .string ⟨#[]⟩] 78 (by simp [hwA])).drew; have hbz := ((hb0.alloc hs0 (.cells #[.int .i64 1, .int .i64 5, .int .i64 6, .int .i64 7] 3)).alloc (by simp; omega) (.cells #[.int .i64 7, .int .i64 0, .int .u64 n, .string ⟨#[]⟩] 78)).drew; have hsz : B + 1 + 1 < ((wA.alloc (.cells #[.int .i64 1, .int .i64 5, .int .i64 6, .int .i64 7] 3)).alloc (.cells #[.int .i64 7, .int .i64 0, .int .u64 n, .string ⟨#[]⟩] 78)).drew.heap.size := by simp [hwA]
      generalize ((wA.alloc (.cells #[.int .i64 1, .int .i64 5, .int .i64 6, .int .i64 7] 3)).alloc (.cells #[.int .i64 7, .int .i64 0, .int .u64 n, .string ⟨#[]⟩] 78)).drew = Z at *; obtain ⟨PF, hPF⟩ : ∃ p, B + 1 + 1 = p := ⟨_, rfl⟩; rw [hPF] at kF; have hVF : B ≠ PF := by omega
      have hWF : w.heap.size ≤ PF := by rw [HBQ.out]; omega
      rw [hPF]; clear hPF k0 x0 x2 hwA hB1 hB2 hB3; have v0 := kV.cell 0 rfl; have q0 := kF.cell 0 rfl; have q1 := kF.cell 1 rfl; have q2 := kF.cell 2 rfl; have q3 := kF.cell 3 rfl; have hbz3 := hbz
      go_wp2_with fail
      refine (HF.out _).mono ?_; rintro e w3 ⟨x, rfl, hown, hb3⟩; have hbw3 := hbz3.trans (hb3.mono hbz3.size); have hown3 : w3.ownsRow w.heap.size _ _ _ _ _ := hown.mono hbz3.size; clear HF hown hb3; go_wp2; go_ret; exact ⟨x, rfl, hown3, hbw3⟩
    · have kV := ((k0.alloc (.cells #[.int .i64 7, .int .i64 0, .int .u64 n, .string ⟨#[]⟩] 78)).alloc (.cells #[.int .i64 1, .int .i64 5, .int .i64 6, .int .i64 7] 3)).drew; have kF := ((Blk.lit wA (B + 1) [.int .i64 7, .int .i64 0, .int .u64 n, .string ⟨#[]⟩] 78 hwA).alloc (.cells #[.int .i64 1, .int .i64 5, .int .i64 6, .int .i64 7] 3)).drew; have hbz := ((hb0.alloc hs0 (.cells #[.int .i64 7, .int .i64 0, .int .u64 n, .string ⟨#[]⟩] 78)).alloc (by simp; omega) (.cells #[.int .i64 1, .int .i64 5, .int .i64 6, .int .i64 7] 3)).drew; have hsz : B + 1 + 1 < ((wA.alloc (.cells #[.int .i64 7, .int .i64 0, .int .u64 n, .string ⟨#[]⟩] 78)).alloc (.cells #[.int .i64 1, .int .i64 5, .int .i64 6, .int .i64 7] 3)).drew.heap.size := by simp [hwA]
      generalize ((wA.alloc (.cells #[.int .i64 7, .int .i64 0, .int .u64 n, .string ⟨#[]⟩] 78)).alloc (.cells #[.int .i64 1, .int .i64 5, .int .i64 6, .int .i64 7] 3)).drew = Z at *; obtain ⟨PF, hPF⟩ : ∃ p, B + 1 = p := ⟨_, rfl⟩; rw [hPF] at kF; have hVF : B ≠ PF := by omega
      have hWF : w.heap.size ≤ PF := by rw [HBQ.out]; omega
      rw [hPF]; clear hPF k0 x0 x2 hwA hB1 hB2 hB3; have v0 := kV.cell 0 rfl; have q0 := kF.cell 0 rfl; have q1 := kF.cell 1 rfl; have q2 := kF.cell 2 rfl; have q3 := kF.cell 3 rfl; have hbz3 := hbz
      go_wp2_with fail
      refine (HF.out _).mono ?_; rintro e w3 ⟨x, rfl, hown, hb3⟩; have hbw3 := hbz3.trans (hb3.mono hbz3.size); have hown3 : w3.ownsRow w.heap.size _ _ _ _ _ := hown.mono hbz3.size; clear HF hown hb3; go_wp2; go_ret; exact ⟨x, rfl, hown3, hbw3⟩
end Go.Proofs.YtinogphhbbaobaaDoor
/- graticuleref09.Runes. -/
set_option linter.unusedVariables false
set_option linter.unusedSimpArgs false
set_option maxRecDepth 100000
namespace Go
open Go.RowKit
def rns (l : List (Nat × Nat)) : List Value := l.map (fun x => .int .i64 (x.1 : Int))
def rps (l : List (Nat × Nat)) : List Value := l.map (fun x => .int .i64 (x.2 : Int))
def runesT (s : ByteArray) : List (Nat × Nat) := if rightF s then runesF s else []
end Go
namespace Go.Proofs.YtinogphhbbaobaaDoor
open Go.RowKit
theorem Tryd.infoI64 : (Tryd.prog.info? 3).map (fun i => (i.zero, i.size, i.bytes)) = some (some (.int .i64 0), 1, 8) := by kernel_rfl

set_option maxHeartbeats 1600000 in
theorem rrunes_any (s : ByteArray) (hs : s.size ≤ 100000) (w : World) :
    Calls Tryd.prog 31 #[.string s] w fun e w' => ∃ vo va, e = .returned (.tuple #[vo, va, .bool (rightF s)]) ∧ w'.ownsRow w.heap.size 3 1 vo (runesT s).length (rns (runesT s)) ∧ w'.ownsRow w.heap.size 3 1 va (runesT s).length (rps (runesT s)) ∧ Below w.heap.size w w' := by
  have hF : Hid (runesT s = if rightF s then runesF s else []) := Lib.hid rfl; generalize runesT s = L at *; obtain ⟨T, hT⟩ : ∃ T : Bool, rightF s = T := ⟨_, rfl⟩; rw [hT] at hF ⊢; have HT := Lib.hid hT; clear hT
  go_enter Tryd.func31, Tryd.ntmps31
  go_wp2
  go_loopw [5, 6, 7] (fun o a i wr => ∃ (p f : Nat) (pre : List (Nat × Nat)), i = .int .i64 (p : Int) ∧ wr.ownsRow w.heap.size 3 1 o pre.length (rns pre) ∧ wr.ownsRow w.heap.size 3 1 a pre.length (rps pre) ∧ Hid (Disj o a) ∧ Below w.heap.size w wr ∧ Hid (runesF s = pre ++ rl s f p) ∧ Hid (pre.all (fun x => !badAt s x.2) = true) ∧ s.size ≤ p + f ∧ pre.length ≤ p ∧ p ≤ s.size) (fun _ _ i _ => s.size - (intOf i).toNat)
  case atStart => exact ⟨0, s.size, [], rfl, World.ownsRow_nil _ _ _ _, World.ownsRow_nil _ _ _ _, Lib.hid (fun k h => by simp [Value.ownBlock] at h), Below.refl _ _, Lib.hid rfl, Lib.hid rfl, by omega, by simp, by omega⟩
  case round =>
    obtain ⟨p, f, pre, rfl, hoo, hoa, HD, hbl, HR, HA, hpf, hpl, hps⟩ := hrel
    by_cases hp : p < s.size
    · obtain ⟨f, rfl⟩ : ∃ g, f = g + 1 := ⟨f - 1, by omega⟩; have hwd := decode_wid hp; rw [rl_step s f p hp] at HR; have hfi := first_any (s.extract p s.size) (by rw [ext_size]; unfold maxLen; omega); have hft : firstT (s.extract p s.size) = firstF s p := by
        unfold firstT; rw [if_neg (by rw [ext_size]; omega), ext_first]; rfl
      rw [hft] at hfi; have hff : firstF s p = if badAt s p then (0, 0) else Utf8.decode s p := rfl; rw [hff] at hfi; have HRT : Hid (badAt s p = true → T = false) := Lib.hid (fun h => by
        rw [← HT.out]; unfold rightF; rw [HR.out, List.all_append, List.all_cons]; simp [h])
      obtain ⟨B, hB⟩ : ∃ B, badAt s p = B := ⟨_, rfl⟩; have HBB := Lib.hid hB; rw [hB] at hfi HRT; clear hB hff hft; obtain ⟨D, hD⟩ : ∃ D, Utf8.decode s p = D := ⟨_, rfl⟩; rw [hD] at hfi HR hwd; obtain ⟨R, Wd⟩ := D; dsimp only at HR hwd; have hpi : (p : Int) ≤ (s.size : Int) := by omega
      have hpi2 : (p : Int) < (s.size : Int) := by omega
      cases B with
      | true =>
        have hz := HRT.out rfl; subst hz; have hLz := hF.out; rw [if_neg (by decide)] at hLz; subst hLz; rw [if_pos rfl] at hfi; have HFI := Lib.hid hfi; clear hfi hF HRT HR HA HT HD
        go_wp2_with fail
        refine (HFI.out _).mono ?_; rintro e w1 ⟨rfl, rfl⟩; go_wp2; refine bodyPost_ret (v := .tuple #[.slice none 0 0, .slice none 0 0, .bool false]) (by simp [results, Tryd.results31, go_sem]) rfl ⟨_, _, rfl, World.ownsRow_nil _ _ _ _, World.ownsRow_nil _ _ _ _, hbl⟩
      | false =>
        rw [if_neg (by decide)] at hfi; have HFI := Lib.hid hfi; clear hfi hD HRT; have hwz : ((Wd : Int) == 0) = false := by rw [beq_eq_false_iff_ne]; omega
        have hw0 : IntKind.i64.wrap ((p : Int) + (Wd : Int)) = ((p + Wd : Nat) : Int) := by rw [IntWalk.i64_in _ (by omega)]; omega
        go_wp2_with fail
        refine (HFI.out _).mono ?_; rintro e w1 ⟨rfl, rfl⟩; dsimp only; have hoa1 : ∀ k, u6.ownBlock = some k → k < w1.heap.size := fun k hk => (hoa.lt k hk).2
        go_wp2_with (at_builtin; first
          | (refine wpList_appLitAt w hbl rfl (.tmp 23) (.tmp 25) 66 rfl 3 (.int .i64 0) 1 8 Tryd.underlying66 Tryd.infoI64 rfl (by decide) (by decide) u5 pre.length (rns pre) rfl hoo 1 1 w1.heap.size rfl [.int .i64 (R : Int)] _ rfl rfl (by simp [Value.oneCell']) (by omega) ?_
             intro v2 w2 ho2 hg2 hb2 hl2; have hoa2 := hoa.kept hg2 HD.out.kept; have hd2 : Disj v2 u6 := HD.out.left hl2 (fun k hk => by have := hoa1 k hk; omega); have hob2 := ho2.lt; have hsz2 := hg2.size)
          | (refine wpList_appLitAt w hb2 rfl (.tmp 27) (.tmp 29) 66 rfl 3 (.int .i64 0) 1 8 Tryd.underlying66 Tryd.infoI64 rfl (by decide) (by decide) u6 pre.length (rps pre) rfl hoa2 1 1 w2.heap.size rfl [.int .i64 (p : Int)] _ rfl rfl (by simp [Value.oneCell']) (by omega) ?_
             intro v3 w3 ho3 hg3 hb3 hl3; have ho4 := ho2.kept hg3 hd2.symm.kept; have hd3 : Disj v3 v2 := hd2.symm.left hl3 (fun k hk => by have := (hob2 k hk).2; omega)))
        have hlen : (pre ++ [(R, p)]).length = pre.length + 1 := by simp
        have e1 : rns (pre ++ [(R, p)]) = rns pre ++ [.int .i64 (R : Int)] := by simp [rns]
        have e2 : rps (pre ++ [(R, p)]) = rps pre ++ [.int .i64 (p : Int)] := by simp [rps]
        refine ⟨⟨p + Wd, f, pre ++ [(R, p)], val_int (by omega), ?_, ?_, Lib.hid hd3.symm, hb3, Lib.hid (by rw [HR.out, List.append_assoc]; rfl), Lib.hid (by rw [List.all_append, HA.out]; simp [HBB.out]), by omega, by rw [hlen]; omega, by omega⟩, by simp [intOf]; omega⟩
        · rw [e1, hlen]; exact ho4
        · rw [e2, hlen]; exact ho3
    · have hlt : ¬ (p : Int) < (s.size : Int) := by omega
      rw [rl_end s f p hp, List.append_nil] at HR; have hF1 : T = true := by rw [← HT.out]; unfold rightF; rw [HR.out]; exact HA.out
      subst hF1; have hL := hF.out; rw [if_pos rfl, HR.out] at hL; subst hL; clear HR HA hF HT HD; go_wp2; refine bodyPost_ret (v := .tuple #[u5, u6, .bool true]) (by simp [results, Tryd.results31, go_sem]) rfl ⟨_, _, rfl, hoo, hoa, hbl⟩
end Go.Proofs.YtinogphhbbaobaaDoor
