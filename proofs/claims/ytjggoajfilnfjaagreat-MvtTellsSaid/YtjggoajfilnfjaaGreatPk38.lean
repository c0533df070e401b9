/-
  graticuleref07.Bytes. graticuleref08.Low, Bytes. graticuleref24.tell, row. graticuleref07.Zig.
-/
import Derived.Test.YtjggoajfilnfjaaGreatPk8
import Derived.Test.YtjggoajfilnfjaaGreatPk7
import Derived.Lib.ConvBytes
import Derived.Test.YtjggoajfilnfjaaGreatPk17
import Derived.Test.YtjggoajfilnfjaaGreatPk36
import Derived.Test.YtjggoajfilnfjaaGreatPk1
import Derived.Test.YtjggoajfilnfjaaGreatProg
import Derived.Test.YtjggoajfilnfjaaGreatPk2
namespace Go.Proofs.YtjggoajfilnfjaaGreat
open Go.RowKit Go.Vint

theorem rbytes_any : ∀ (k : Nat) (n : Int), n.toNat ≤ k → 0 ≤ n → n ≤ 18446744073709551615 → ∀ (w : World),
  Calls Tryz.prog 93 #[.int .u64 n] w fun e w' => ∃ v, e = .returned v ∧ w'.ownsRow w.heap.size 5 1 v (vb n).length ((vb n).map (Value.int .u8)) ∧ Below w.heap.size w w' := by
 intro k
 induction k with
 | zero =>
  intro n hk h0 h1 w; have hlt : n < 128 := by omega
  have HV : Hid (vb n = [n]) := vb_lo hlt
  go_enter Tryz.func93, Tryz.ntmps93
  go_wp2; go_ret; rw [HV.out]; exact ⟨_, rfl, ownsRow_lit w _ 1 1 [.int .u8 n] rfl (by decide), Below.new w _⟩
 | succ k ih =>
  intro n hk h0 h1 w
  by_cases hlt : n < 128
  ·have HV : Hid (vb n = [n]) := vb_lo hlt; clear ih
   go_enter Tryz.func93, Tryz.ntmps93
   go_wp2; go_ret; rw [HV.out]; exact ⟨_, rfl, ownsRow_lit w _ 1 1 [.int .u8 n] rfl (by decide), Below.new w _⟩
  ·have HV : Hid (vb n = (128 + n % 128) :: vb (n / 128)) := vb_hi hlt; have hc := ih (n / 128) (by omega) (by omega) (by omega) (w.alloc (.cells #[.int .u8 (128 + n % 128)] 5)); have HC := Lib.hid hc; have hl := vb_len10 (n / 128) (by omega); clear ih hc
   go_enter Tryz.func93, Tryz.ntmps93
   go_wp2_with fail
   refine HC.out.mono ?_; rintro e w1 ⟨v, rfl, hown, hb⟩; obtain ⟨a, c, rfl, -, -, hz, hr, -⟩ := hown.form; have ho := (ownsRow_lit w 5 1 1 [.int .u8 (128 + n % 128)] rfl (by decide)).below hb; have hb1 : Below w.heap.size w w1 := (Below.new w _).trans (hb.mono (by simp)); clear hown hb
   go_wp2_with (at_builtin; go_must (refine wpList_app' w hb1 rfl (.tmp 12) (.tmp 15) 31 rfl 5 (.int .u8 0) 1 1 Tryz.underlying31 Tryz.infoU8 rfl (by decide) _ 1 [.int .u8 (128 + n % 128)] rfl ho a (vb (n / 128)).length c ((vb (n / 128)).map (Value.int .u8)) rfl hz hr (by simp) (ints_one .u8 _) (by omega) (by decide) ?_); intro v2 w2 hown2 _ hb2)
   clear hb1 ho hr; go_wp2; go_ret; refine ⟨_, rfl, ?_, hb2⟩; rw [HV.out]; rw [Nat.add_comm 1] at hown2
   simpa using hown2
end Go.Proofs.YtjggoajfilnfjaaGreat
set_option linter.unusedVariables false
set_option linter.unusedSimpArgs false
namespace Go
open Go.RowKit
theorem conv_str_bytes {P : Program} (w : World) (src dst e : TypeId) (hs : P.underlying src = some .string) (hd : P.underlying dst = some (.slice e)) (he : P.underlying e = some (.int .u8)) (bs : List Int) (hb : ∀ x ∈ bs, 0 ≤ x ∧ x ≤ 255) :
  ∃ c w', (convert src dst (.string (strOfNums bs))).run P w = .ok (.slice (some ⟨w.heap.size, 0, none⟩) bs.length c) w' ∧ Rd w' (some ⟨w.heap.size, 0, none⟩) (bs.map (Value.int .u8)) ∧ Below w.heap.size w w' := by
 refine ⟨grownCap w (strOfNums bs).size 0 e, Lib.bytesWorld w e (strOfNums bs), ?_, ?_, ?_⟩
 ·rw [Lib.run_convert_string_bytes w src dst e _ hs hd he, strOfNums_size]
 ·refine .inr ⟨_, _, rfl, fun i v hv => ?_⟩; have hi : i < bs.length := by simpa using (List.getElem?_eq_some_iff.1 hv).1
  rw [Nat.zero_add, Lib.bytesWorld_cell w e _ i (by rw [strOfNums_size]; exact hi), ← hv, strOfNums_data]; have hx := hb bs[i] (List.getElem_mem hi); simp [List.getD, hi]; omega
 ·refine ⟨rfl, rfl, rfl, by rw [Lib.bytesWorld_size]; omega, fun k hk => Lib.bytesWorld_at_old w e _ k hk⟩
end Go
namespace Go.Proofs.YtjggoajfilnfjaaGreat
open Go.RowKit Go.Vint Go.Proto

set_option maxHeartbeats 2000000 in
theorem rlow_any (n : Int) (s : Nat) (hs : s ≤ 8) (hn : 0 ≤ n ∧ n ≤ 18446744073709551615) (w : World) :
  Calls Tryz.prog 94 #[.int .u64 n, .int .i64 s] w fun e w' => ∃ v, e = .returned v ∧ w'.ownsRow w.heap.size 5 1 v s ((low n s).map (Value.int .u8)) ∧ Below w.heap.size w w' := by
 go_enter Tryz.func94, Tryz.ntmps94
 go_wp2
 go_loopw [0, 5, 6] (fun z o i wr => ∃ (k : Nat) (m : Int) (A : List Int), k ≤ s ∧ i = .int .i64 k ∧ z = .int .u64 m ∧ 0 ≤ m ∧ m ≤ 18446744073709551615 ∧ A.length = k ∧ A ++ low m (s - k) = low n s ∧ wr.ownsRow w.heap.size 5 1 o k (A.map (Value.int .u8)) ∧ Below w.heap.size w wr) (fun _ _ i _ => s - (intOf i).toNat)
 case atStart => exact ⟨0, n, [], Nat.zero_le _, rfl, rfl, hn.1, hn.2, rfl, rfl, World.ownsRow_nil _ _ _ _, Below.refl _ _⟩
 case round =>
  obtain ⟨k, m, A, hk, rfl, rfl, hm0, hm1, hA, hL, hown, hbl⟩ := hrel; have HL := Lib.hid hL; have HA := Lib.hid hA; clear hL hA
  by_cases hlt : k < s
  ·have hst : Hid ((A ++ [m % 256]) ++ low (m / 256) (s - (k + 1)) = low n s) := by
    refine Lib.hid ?_; rw [← HL.out, show s - k = (s - (k + 1)) + 1 by omega, low]; simp
   go_wp2_with (at_builtin; go_must (refine wpList_appLit' w hbl rfl (.tmp 12) (.tmp 16) 31 rfl 5 (.int .u8 0) 1 1 Tryz.underlying31 Tryz.infoU8 rfl (by decide) (by decide) u5 k (A.map (Value.int .u8)) rfl hown 1 1 [.int .u8 (m % 256)] _ rfl rfl (ints_one .u8 [_]) (by omega) ?_); intro v2 w2 hown2 _ hbl2; clear hown hbl)
   go_roundw
   case rel => exact ⟨k + 1, m / 256, A ++ [m % 256], by omega, by go_num, rfl, by omega, by omega, by simp [HA.out], hst.out, by simpa using hown2, hbl2⟩
   case measure => simp [intOf]; omega
  ·obtain rfl : k = s := by omega
   have hAe : A = low n k := by
    have := HL.out
    simpa [low] using this
   rw [hAe] at hown; go_wp2; go_ret; exact ⟨_, rfl, hown, hbl⟩

set_option maxHeartbeats 4000000 in
theorem rfby_any (f : Fld) (hck : Proto.chk f = 0) (hxb : Byt f) (hn : 0 ≤ f.n ∧ f.n ≤ 18446744073709551615) (hbsl : f.bs.length ≤ 1000000) (w : World) :
  Calls Tryz.prog 68 #[.agg (rcells f).toArray] w fun e w' => ∃ v, e = .returned v ∧ w'.ownsRow w.heap.size 5 1 v (fby f).length ((fby f).map (Value.int .u8)) ∧ Below w.heap.size w w' := by
 obtain ⟨num, kind, n, bs⟩ := f; obtain ⟨hn0, hn1⟩ := hn; dsimp only [rcells] at *; obtain ⟨k0, k1, k2⟩ : 1 ≤ num ∧ num ≤ 536870911 ∧ (kind = 0 ∨ kind = 1 ∨ kind = 2 ∨ kind = 5) := by
  unfold Proto.chk at hck; dsimp only at hck
  split at hck
  ·omega
  ·split at hck
   ·omega
   ·omega
 clear hck; obtain ⟨KB, hKB⟩ : ∃ KB, KB = vb (8 * num + kind) := ⟨_, rfl⟩; have hKl : KB.length ≤ 10 := by rw [hKB]; exact vb_len10 _ (by omega)
 obtain ⟨TB, hTB⟩ : ∃ TB, TB = tail ⟨num, kind, n, bs⟩ := ⟨_, rfl⟩; have HF : Hid (fby ⟨num, kind, n, bs⟩ = KB ++ TB) := by
  refine Lib.hid ?_; rw [hKB, hTB]; rfl
 have hTl : TB.length ≤ bs.length + 10 := by
  rw [hTB]; have h2 := vb_len10 n hn1; have h3 := vb_len10 (bs.length : Int) (by omega); unfold tail; dsimp only
  split
  ·omega
  ·split
   ·rw [low_len]; omega
   ·split
    ·rw [low_len]; omega
    ·rw [List.length_append]; omega
 obtain ⟨F, hF⟩ : ∃ F, fby ⟨num, kind, n, bs⟩ = F := ⟨_, rfl⟩; rw [hF] at HF ⊢; have hsz : (strOfNums bs).size = bs.length := strOfNums_size bs; have hvk := rbytes_any (8 * num + kind).toNat (8 * num + kind) (Nat.le_refl _) (by omega) (by omega) (w.alloc (.cells #[.int .i64 num, .int .i64 kind, .int .u64 n, .string (strOfNums bs)] 145)); rw [← hKB] at hvk; have HVK := Lib.hid hvk; have TBk := Lib.hid hTB; clear hF hKB hTB hvk
 go_enter Tryz.func68, Tryz.ntmps68
 go_wp2_with fail
 refine HVK.out.mono ?_; rintro e w2 ⟨v2, rfl, hv2, hb2⟩; obtain ⟨a2, e2, rfl, -, -, ha2, hr2, -⟩ := hv2.form; have hX2 := (BlkT.new w [.int .i64 num, .int .i64 kind, .int .u64 n, .string (strOfNums bs)] 145).keep hb2; have hown2 := hv2.mono (base' := w.heap.size) (by simp); have hbl2 : Below w.heap.size w w2 := (Below.new w _).trans (hb2.mono (by simp)); have x1 := hX2.cell 1 rfl; have x2 := hX2.cell 2 rfl; have x3 := hX2.cell 3 rfl; clear HVK hv2 hb2 hr2
 rcases k2 with rfl | rfl | rfl | rfl
 ·have hvk := rbytes_any n.toNat n (Nat.le_refl _) hn0 hn1 w2; rw [show vb n = TB by rw [TBk.out]; simp [tail]] at hvk; have HVK := Lib.hid hvk; clear hvk
  go_wp2_with fail
  refine HVK.out.mono ?_; rintro e w4 ⟨v4, rfl, hv4, hb4⟩; obtain ⟨a4, e4, rfl, -, -, ha4, hr4, -⟩ := hv4.form; have hown4 := hown2.below hb4; have hbl4 := hbl2.trans (hb4.mono hbl2.size); clear HVK hown2 hbl2 hb4 hv4
  go_wp2_with (at_builtin; go_must (refine wpList_app' w hbl4 rfl (.tmp 17) (.tmp 20) 31 rfl 5 (.int .u8 0) 1 1 Tryz.underlying31 Tryz.infoU8 rfl (by decide) (.slice a2 KB.length e2) KB.length (KB.map (Value.int .u8)) rfl hown4 a4 TB.length e4 (TB.map (Value.int .u8)) rfl ha4 hr4 (by simp) (ints_one .u8 _) (by omega) (by decide) ?_); intro v5 w5 hown5 hg5 hbl5; clear hown4 hbl4 hg5 hr4 hX2 x1 x2 x3)
  go_ret; refine ⟨_, rfl, ?_, hbl5⟩; rw [HF.out, List.length_append, List.map_append]; exact hown5
 ·have hTl4 : TB.length = 8 := by rw [TBk.out]; simp [tail, low_len]
  have hvk := rlow_any n 8 (by omega) ⟨hn0, hn1⟩ w2; rw [show low n 8 = TB by rw [TBk.out]; simp [tail]] at hvk; have HVK := Lib.hid hvk; have HT4 := Lib.hid hTl4; clear hvk hTl4
  go_wp2_with fail
  refine HVK.out.mono ?_; rintro e w4 ⟨v4, rfl, hv4, hb4⟩; rw [← HT4.out] at hv4; obtain ⟨a4, e4, rfl, -, -, ha4, hr4, -⟩ := hv4.form; have hown4 := hown2.below hb4; have hbl4 := hbl2.trans (hb4.mono hbl2.size); clear HVK hown2 hbl2 hb4 hv4
  go_wp2_with (at_builtin; go_must (refine wpList_app' w hbl4 rfl (.tmp 24) (.tmp 27) 31 rfl 5 (.int .u8 0) 1 1 Tryz.underlying31 Tryz.infoU8 rfl (by decide) (.slice a2 KB.length e2) KB.length (KB.map (Value.int .u8)) rfl hown4 a4 TB.length e4 (TB.map (Value.int .u8)) rfl ha4 hr4 (by simp) (ints_one .u8 _) (by omega) (by decide) ?_); intro v5 w5 hown5 hg5 hbl5; clear hown4 hbl4 hg5 hr4 hX2 x1 x2 x3)
  go_ret; refine ⟨_, rfl, ?_, hbl5⟩; rw [HF.out, List.length_append, List.map_append]; exact hown5
 ·have hvk := rbytes_any (bs.length : Int).toNat (bs.length : Int) (Nat.le_refl _) (by omega) (by omega) w2; obtain ⟨LB, hLB⟩ : ∃ LB, LB = vb (bs.length : Int) := ⟨_, rfl⟩; rw [← hLB] at hvk; have HVK := Lib.hid hvk; have hTB2 : TB = LB ++ bs := by rw [TBk.out, hLB]; simp [tail]
  have HTB2 := Lib.hid hTB2; have hLl : LB.length ≤ 10 := by rw [hLB]; exact vb_len10 _ (by omega)
  clear hvk hTB2 hLB
  go_wp2_with fail
  refine HVK.out.mono ?_; rintro e w4 ⟨v4, rfl, hv4, hb4⟩; obtain ⟨a4, e4, rfl, -, -, ha4, hr4, -⟩ := hv4.form; have hown4 := hown2.below hb4; have hbl4 := hbl2.trans (hb4.mono hbl2.size); have hX4 := hX2.keep hb4; have hne4 := hX4.not_row (by decide) hown4; clear HVK hown2 hbl2 hb4 hv4 hX2 x1 x2 x3
  go_wp2_with (first
   | (at_builtin; refine wpList_app' w hbl4 rfl (.tmp 36) (.tmp 41) 31 rfl 5 (.int .u8 0) 1 1 Tryz.underlying31 Tryz.infoU8 rfl (by decide) (.slice a2 KB.length e2) (KB.length) (KB.map (Value.int .u8)) rfl hown4 a4 LB.length e4 (LB.map (Value.int .u8)) rfl ha4 hr4 (by simp) (ints_one .u8 _) (by omega) (by decide) ?_; intro v5 w5 hown5 hg5 hbl5; have hX5 := hX4.grown hg5 hne4; have y3 := hX5.cell 3 rfl; obtain ⟨c6, w6, hcv, hr6, hb6⟩ := conv_str_bytes (P := Tryz.prog) w5 9 31 5 Tryz.underlying9 Tryz.underlying31 Tryz.underlying5 bs hxb; have hown6 := hown5.below hb6; have hbl6 := hbl5.trans (hb6.mono hbl5.size); clear hown4 hbl4 hg5 hr4 hX4 hX5 hown5 hbl5 hb6)
   | (at_builtin; refine wpList_app' w hbl6 rfl (.tmp 43) (.tmp 46) 31 rfl 5 (.int .u8 0) 1 1 Tryz.underlying31 Tryz.infoU8 rfl (by decide) v5 (KB.length + LB.length) (KB.map (Value.int .u8) ++ LB.map (Value.int .u8)) rfl hown6 (some ⟨w5.heap.size, 0, none⟩) bs.length c6 (bs.map (Value.int .u8)) rfl (fun h => by cases h) hr6 (by simp) (ints_one .u8 _) (by omega) (by decide) ?_; intro v7 w7 hown7 hg7 hbl7; clear hown6 hbl6 hg7 hr6 hcv y3))
  go_ret; refine ⟨_, rfl, ?_, hbl7⟩; rw [HF.out, HTB2.out]
  simpa [Nat.add_assoc] using hown7
 ·have hTl4 : TB.length = 4 := by rw [TBk.out]; simp [tail, low_len]
  have hvk := rlow_any n 4 (by omega) ⟨hn0, hn1⟩ w2; rw [show low n 4 = TB by rw [TBk.out]; simp [tail]] at hvk; have HVK := Lib.hid hvk; have HT4 := Lib.hid hTl4; clear hvk hTl4
  go_wp2_with fail
  refine HVK.out.mono ?_; rintro e w4 ⟨v4, rfl, hv4, hb4⟩; rw [← HT4.out] at hv4; obtain ⟨a4, e4, rfl, -, -, ha4, hr4, -⟩ := hv4.form; have hown4 := hown2.below hb4; have hbl4 := hbl2.trans (hb4.mono hbl2.size); clear HVK hown2 hbl2 hb4 hv4
  go_wp2_with (at_builtin; go_must (refine wpList_app' w hbl4 rfl (.tmp 31) (.tmp 34) 31 rfl 5 (.int .u8 0) 1 1 Tryz.underlying31 Tryz.infoU8 rfl (by decide) (.slice a2 KB.length e2) KB.length (KB.map (Value.int .u8)) rfl hown4 a4 TB.length e4 (TB.map (Value.int .u8)) rfl ha4 hr4 (by simp) (ints_one .u8 _) (by omega) (by decide) ?_); intro v5 w5 hown5 hg5 hbl5; clear hown4 hbl4 hg5 hr4 hX2 x1 x2 x3)
  go_ret; refine ⟨_, rfl, ?_, hbl5⟩; rw [HF.out, List.length_append, List.map_append]; exact hown5
end Go.Proofs.YtjggoajfilnfjaaGreat
set_option maxRecDepth 100000
namespace Go
open Go.RowKit
theorem grown_ofT {w a b : World} {r : Option Nat} (h : Below w.heap.size w a) (k : a.grownBy b r) : w.grownBy b r :=
 ⟨k.os.trans h.os, k.tape.trans h.tape, k.output.trans h.output, Nat.le_trans h.size k.size, fun j hj hne => (k.block j (Nat.lt_of_lt_of_le hj h.size) hne).trans (h.block j hj)⟩
end Go
namespace Go.Proofs.YtjggoajfilnfjaaGreat
open Go.RowKit Go.Vint Go.Proto
set_option maxHeartbeats 1600000 in
theorem rtell_any (base : Nat) (v : Value) (n : Nat) (xs : List Int) (f : Fld) (S : ByteArray) (hS : strOfNums f.bs = S) (hck : FOk f) (w : World) (hb : base ≤ w.heap.size) (ho : w.ownsRow base 5 1 v n (xs.map (Value.int .u8))) (hn : n ≤ 100000000) :
  Calls Tryz.prog 33 #[v, .int .i64 f.num, .int .i64 f.kind, .int .u64 f.n, .string S] w fun e w' => ∃ v', e = .returned v' ∧ w'.ownsRow base 5 1 v' (n + (fby f).length) ((xs ++ fby f).map (Value.int .u8)) ∧ w.grownBy w' v.ownBlock := by
 have HF := Lib.hid (fun W => rfby_any f hck.1 hck.2.2.1 ⟨hck.2.1.1, hck.2.1.2⟩ hck.2.2.2 W); have HRC : Hid (rcells f = [.int .i64 f.num, .int .i64 f.kind, .int .u64 f.n, .string S]) := Lib.hid (by rw [← hS]; rfl); rw [HRC.out] at HF; have hfl : (fby f).length ≤ 1000020 := by have := hck.len; have := hck.2.2.2; omega
 obtain ⟨num, kind, nn, bs⟩ := f; dsimp only at *; obtain ⟨FB, hFB⟩ : ∃ x, fby ⟨num, kind, nn, bs⟩ = x := ⟨_, rfl⟩; rw [hFB] at HF hfl ⊢; clear hFB HRC hS hck; have HO := Lib.hid ho; clear ho
 go_enter Tryz.func33, Tryz.ntmps33
 go_wp2_with fail
 refine (HF.out w).mono ?_; rintro e w1 ⟨x, rfl, hx, hb1⟩; obtain ⟨p, c, rfl, h1, h2, h3, h4, -⟩ := hx.form; obtain ⟨m, hm⟩ : ∃ m, FB.length = m := ⟨_, rfl⟩; rw [hm] at h1 hfl ⊢; have HM := Lib.hid hm; have hbs := Nat.le_trans hb hb1.size; clear hm HF hx
 go_wp2_with (at_builtin; go_must (refine wpList_app rfl (.tmp 11) (.tmp 17) 31 rfl base 5 (.int .u8 0) 1 1 Tryz.underlying31 Tryz.infoU8 rfl (by decide) v n (xs.map (Value.int .u8)) rfl (HO.out.below hb1) p m c (FB.map (Value.int .u8)) rfl h3 h4 (by rw [List.length_map, HM.out, Nat.mul_one]) (ints_one .u8 _) (by omega) (by decide) hbs ?_); intro v2 w2 ho2 hg2)
 go_ret; exact ⟨v2, rfl, by rw [List.map_append, HM.out]; exact ho2, grown_ofT hb1 hg2⟩
set_option maxHeartbeats 1600000 in
theorem rrow24_any (a : Option Addr) (c : Nat) (L : List Int) (hl : L.length ≤ 100000) (hb : ∀ x ∈ L, 0 ≤ x ∧ x ≤ 18446744073709551615) (w : World) (hr : Rd w a (L.map (Value.int .u64))) :
  Calls Tryz.prog 70 #[.slice a L.length c] w fun e w' => e = .returned (.string (strOfNums (vbs L))) ∧ Below w.heap.size w w' := by
 have HR := Lib.hid hr; have HB := Lib.hid hb; have HTN : Hid (vbs (L.take L.length) = vbs L) := Lib.hid (by rw [List.take_length]); have HLV : Hid (∀ k, (vbs (L.take k)).length ≤ 10 * k) := Lib.hid (fun k => by
  have h := vbs_len (L.take k) (fun x hx => (hb x (List.mem_of_mem_take hx)).2); have : (L.take k).length ≤ k := by simp; omega
  omega)
 obtain ⟨N, hN⟩ : ∃ N, L.length = N := ⟨_, rfl⟩; have HN := Lib.hid hN; rw [hN] at HTN hl ⊢; clear hr hb hN
 go_enter Tryz.func70, Tryz.ntmps70
 go_wp2
 go_loopw [3, 4] (fun o i wr => ∃ k : Nat, k ≤ N ∧ i = .int .i64 k ∧ Hid (wr.ownsRow w.heap.size 5 1 o (vbs (L.take k)).length ((vbs (L.take k)).map (Value.int .u8))) ∧ Below w.heap.size w wr) (fun _ i _ => N - (intOf i).toNat)
 case atStart => exact ⟨0, by omega, rfl, Lib.hid (World.ownsRow_nil _ _ _ _), Below.refl _ _⟩
 case round =>
  obtain ⟨k, hk, rfl, HO, hbl⟩ := hrel
  by_cases h1 : k < N
  ·have h1' : (k : Int) < (N : Int) := by omega
   have hkl : k < L.length := by rw [HN.out]; exact h1
   obtain ⟨b1, o1, rfl, c0, hbb⟩ := (HR.out.keep hbl).at (i := k) (v := .int .u64 L[k]) (by simp [hkl]); have hxb := HB.out L[k] (List.getElem_mem hkl); have HSN : Hid (vbs (L.take (k + 1)) = vbs (L.take k) ++ vb L[k]) := Lib.hid (by rw [List.take_succ_eq_append_getElem hkl, vbs_snoc]); have hvl := vb_len10 L[k] (by omega); generalize L[k] = x at *; have HRB := Lib.hid (fun W => rbytes_any x.toNat x (Nat.le_refl _) hxb.1 hxb.2 W); have hpl := HLV.out k; generalize vb x = VB at *; generalize vbs (L.take k) = PB at *
   go_wp2_with fail
   refine (HRB.out wr).mono ?_; rintro e w1 ⟨y, rfl, hy, hb1⟩; obtain ⟨p, c, rfl, y1, y2, y3, y4, -⟩ := hy.form; have ho1 := HO.out.below hb1; have hbl1 := hbl.trans (hb1.mono hbl.size); obtain ⟨m, hm⟩ : ∃ m, VB.length = m := ⟨_, rfl⟩; rw [hm] at y1 hvl ⊢; have HM := Lib.hid hm; obtain ⟨n, hn⟩ : ∃ m, PB.length = m := ⟨_, rfl⟩; rw [hn] at ho1 hpl; have HPN := Lib.hid hn; clear hm hn HRB hy HO
   go_wp2_with (at_builtin; go_must (refine wpList_app rfl (.tmp 11) (.tmp 16) 31 rfl w.heap.size 5 (.int .u8 0) 1 1 Tryz.underlying31 Tryz.infoU8 rfl (by decide) u3 n (PB.map (Value.int .u8)) rfl ho1 p m c (VB.map (Value.int .u8)) rfl y3 y4 (by rw [List.length_map, HM.out, Nat.mul_one]) (ints_one .u8 _) (by omega) (by decide) hbl1.size ?_); intro v2 w2 ho2 hg2)
   have hbl2 := hbl1.grown hg2 hbl1.size (fun j hj => (ho1.lt j hj).1); have HO2 : Hid (w2.ownsRow w.heap.size 5 1 v2 (vbs (L.take (k + 1))).length ((vbs (L.take (k + 1))).map (Value.int .u8))) := Lib.hid (by
    rw [HSN.out, List.length_append, HPN.out, HM.out, List.map_append]; exact ho2)
   clear ho1 ho2 hg2 y4; go_roundw
   case rel => exact ⟨k + 1, by omega, by go_num, HO2, hbl2⟩
   case measure => simp [intOf]; omega
  ·obtain rfl : k = N := by omega
   have h1' : ¬ (k : Int) < (k : Int) := by omega
   have ho := HO.out; rw [HTN.out] at ho; obtain ⟨p, q, rfl, -, -, -, hrd, -⟩ := ho.form; have hcv := run_convert_rd (P := Tryz.prog) wr 31 5 9 Tryz.underlying31 Tryz.underlying5 Tryz.underlying9 p q (vbs L) hrd; clear ho HO hrd; go_wp2; go_ret; exact ⟨rfl, hbl⟩
end Go.Proofs.YtjggoajfilnfjaaGreat
namespace Go.Proofs.YtjggoajfilnfjaaGreat
open Go.RowKit Go.Vint

theorem rzig_any (n : Int) (h0 : -9223372036854775808 ≤ n) (h1 : n ≤ 9223372036854775807) (w : World) :
  Calls Tryz.prog 97 #[.int .i64 n] w fun e w' => e = .returned (.int .u64 (zig n)) ∧ w = w' := by
 by_cases hn : n < 0
 ·have HZ : Hid (zig n = -2 * n - 1) := by show _ = _; unfold zig; rw [if_pos hn]
  go_enter Tryz.func97, Tryz.ntmps97
  go_wp2; go_ret; exact ⟨ret_int (by rw [HZ.out]; omega), rfl⟩
 ·have HZ : Hid (zig n = 2 * n) := by show _ = _; unfold zig; rw [if_neg hn]
  go_enter Tryz.func97, Tryz.ntmps97
  go_wp2; go_ret; exact ⟨ret_int (by rw [HZ.out]), rfl⟩
end Go.Proofs.YtjggoajfilnfjaaGreat
