/-
  graticuleref08.Low, Bytes.
-/
import Derived.Test.YtoicahfpnnhgpaaPrcheck
import Derived.Test.YtoicahfpnnhgpaaPwrite
import Derived.Test.YtoicahfpnnhgpaaVrefbytes
import Derived.Lib.ConvBytes
set_option linter.unusedVariables false
set_option linter.unusedSimpArgs false
namespace Go
open Go.RowKit
/-- '[]byte(s)', s no constant. -/
theorem conv_str_bytes {P : Program} (w : World) (src dst e : TypeId) (hs : P.underlying src = some .string) (hd : P.underlying dst = some (.slice e)) (he : P.underlying e = some (.int .u8)) (bs : List Int) (hb : ∀ x ∈ bs, 0 ≤ x ∧ x ≤ 255) :
    ∃ c w', (convert src dst (.string (strOfNums bs))).run P w = .ok (.slice (some ⟨w.heap.size, 0, none⟩) bs.length c) w' ∧ Rd w' (some ⟨w.heap.size, 0, none⟩) (bs.map (Value.int .u8)) ∧ Below w.heap.size w w' := by
  refine ⟨grownCap w (strOfNums bs).size 0 e, Lib.bytesWorld w e (strOfNums bs), ?_, ?_, ?_⟩
  · rw [Lib.run_convert_string_bytes w src dst e _ hs hd he, strOfNums_size]
  · refine .inr ⟨_, _, rfl, fun i v hv => ?_⟩
    have hi : i < bs.length := by simpa using (List.getElem?_eq_some_iff.1 hv).1
    rw [Nat.zero_add, Lib.bytesWorld_cell w e _ i (by rw [strOfNums_size]; exact hi), ← hv, strOfNums_data]
    have hx := hb bs[i] (List.getElem_mem hi)
    simp [List.getD, hi]
    omega
  · refine ⟨rfl, rfl, rfl, by rw [Lib.bytesWorld_size]; omega, fun k hk => Lib.bytesWorld_at_old w e _ k hk⟩
end Go
namespace Go.Proofs.Ytoicahfpnnhgpaa
open Go.RowKit Go.Vint Go.Proto

set_option maxHeartbeats 2000000 in
theorem rlow_any (n : Int) (s : Nat) (hs : s ≤ 8) (hn : 0 ≤ n ∧ n ≤ 18446744073709551615) (w : World) :
    Calls Try.prog 34 #[.int .u64 n, .int .i64 s] w fun e w' => ∃ v, e = .returned v ∧ w'.ownsRow w.heap.size 5 1 v s ((low n s).map (Value.int .u8)) ∧ Below w.heap.size w w' := by
  go_enter Try.func34, Try.ntmps34
  go_wp2
  go_loopw [0, 5, 6] (fun z o i wr => ∃ (k : Nat) (m : Int) (A : List Int), k ≤ s ∧ i = .int .i64 k ∧ z = .int .u64 m ∧ 0 ≤ m ∧ m ≤ 18446744073709551615 ∧ A.length = k ∧ A ++ low m (s - k) = low n s ∧ wr.ownsRow w.heap.size 5 1 o k (A.map (Value.int .u8)) ∧ Below w.heap.size w wr) (fun _ _ i _ => s - (intOf i).toNat)
  case atStart => exact ⟨0, n, [], Nat.zero_le _, rfl, rfl, hn.1, hn.2, rfl, rfl, World.ownsRow_nil _ _ _ _, Below.refl _ _⟩
  case round =>
    obtain ⟨k, m, A, hk, rfl, rfl, hm0, hm1, hA, hL, hown, hbl⟩ := hrel
    have HL := Lib.hid hL
    have HA := Lib.hid hA
    clear hL hA
    by_cases hlt : k < s
    · have hst : Hid ((A ++ [m % 256]) ++ low (m / 256) (s - (k + 1)) = low n s) := by
        refine Lib.hid ?_
        rw [← HL.out, show s - k = (s - (k + 1)) + 1 by omega, low]
        simp
      go_wp2_with (at_builtin; go_must (refine wpList_appLit' w hbl rfl (.tmp 12) (.tmp 16) 22 rfl 5 (.int .u8 0) 1 1 Try.underlying22 Try.infoU8 rfl (by decide) (by decide) u5 k (A.map (Value.int .u8)) rfl hown 1 1 [.int .u8 (m % 256)] _ rfl rfl (ints_one .u8 [_]) (by omega) ?_); intro v2 w2 hown2 _ hbl2; clear hown hbl)
      go_roundw
      case rel => exact ⟨k + 1, m / 256, A ++ [m % 256], by omega, by go_num, rfl, by omega, by omega, by simp [HA.out], hst.out, by simpa using hown2, hbl2⟩
      case measure => simp [intOf]; omega
    · obtain rfl : k = s := by omega
      have hAe : A = low n k := by
        have := HL.out
        simpa [low] using this
      rw [hAe] at hown
      go_wp2
      go_ret
      exact ⟨_, rfl, hown, hbl⟩

set_option maxHeartbeats 4000000 in
theorem rfby_any (f : Fld) (hck : chk f = 0) (hxb : Byt f) (hn : 0 ≤ f.n ∧ f.n ≤ 18446744073709551615) (hbsl : f.bs.length ≤ 1000000) (w : World) :
    Calls Try.prog 31 #[.agg (rcells f).toArray] w fun e w' => ∃ v, e = .returned v ∧ w'.ownsRow w.heap.size 5 1 v (fby f).length ((fby f).map (Value.int .u8)) ∧ Below w.heap.size w w' := by
  obtain ⟨num, kind, n, bs⟩ := f
  obtain ⟨hn0, hn1⟩ := hn
  dsimp only [rcells] at *
  obtain ⟨k0, k1, k2⟩ : 1 ≤ num ∧ num ≤ 536870911 ∧ (kind = 0 ∨ kind = 1 ∨ kind = 2 ∨ kind = 5) := by
    unfold chk at hck
    dsimp only at hck
    split at hck
    · omega
    · split at hck
      · omega
      · omega
  clear hck
  obtain ⟨KB, hKB⟩ : ∃ KB, KB = vb (8 * num + kind) := ⟨_, rfl⟩
  have hKl : KB.length ≤ 10 := by rw [hKB]; exact vb_len10 _ (by omega)
  obtain ⟨TB, hTB⟩ : ∃ TB, TB = tail ⟨num, kind, n, bs⟩ := ⟨_, rfl⟩
  have HF : Hid (fby ⟨num, kind, n, bs⟩ = KB ++ TB) := by
    refine Lib.hid ?_
    rw [hKB, hTB]; rfl
  have hTl : TB.length ≤ bs.length + 10 := by
    rw [hTB]
    have h2 := vb_len10 n hn1
    have h3 := vb_len10 (bs.length : Int) (by omega)
    unfold tail
    dsimp only
    split
    · omega
    · split
      · rw [low_len]; omega
      · split
        · rw [low_len]; omega
        · rw [List.length_append]; omega
  obtain ⟨F, hF⟩ : ∃ F, fby ⟨num, kind, n, bs⟩ = F := ⟨_, rfl⟩
  rw [hF] at HF ⊢
  have hsz : (strOfNums bs).size = bs.length := strOfNums_size bs
  have hvk := rbytes_any (8 * num + kind).toNat (8 * num + kind) (Nat.le_refl _) (by omega) (by omega) (w.alloc (.cells #[.int .i64 num, .int .i64 kind, .int .u64 n, .string (strOfNums bs)] 30))
  rw [← hKB] at hvk
  have HVK := Lib.hid hvk
  have TBk := Lib.hid hTB
  clear hF hKB hTB hvk
  go_enter Try.func31, Try.ntmps31
  go_wp2_with fail
  refine HVK.out.mono ?_
  rintro e w2 ⟨v2, rfl, hv2, hb2⟩
  obtain ⟨a2, e2, rfl, -, -, ha2, hr2, -⟩ := hv2.form
  have hX2 := (BlkT.new w [.int .i64 num, .int .i64 kind, .int .u64 n, .string (strOfNums bs)] 30).keep hb2
  have hown2 := hv2.mono (base' := w.heap.size) (by simp)
  have hbl2 : Below w.heap.size w w2 := (Below.new w _).trans (hb2.mono (by simp))
  have x1 := hX2.cell 1 rfl
  have x2 := hX2.cell 2 rfl
  have x3 := hX2.cell 3 rfl
  clear HVK hv2 hb2 hr2
  rcases k2 with rfl | rfl | rfl | rfl
  · have hvk := rbytes_any n.toNat n (Nat.le_refl _) hn0 hn1 w2
    rw [show vb n = TB by rw [TBk.out]; simp [tail]] at hvk
    have HVK := Lib.hid hvk
    clear hvk
    go_wp2_with fail
    refine HVK.out.mono ?_
    rintro e w4 ⟨v4, rfl, hv4, hb4⟩
    obtain ⟨a4, e4, rfl, -, -, ha4, hr4, -⟩ := hv4.form
    have hown4 := hown2.below hb4
    have hbl4 := hbl2.trans (hb4.mono hbl2.size)
    clear HVK hown2 hbl2 hb4 hv4
    go_wp2_with (at_builtin; go_must (refine wpList_app' w hbl4 rfl (.tmp 17) (.tmp 20) 22 rfl 5 (.int .u8 0) 1 1 Try.underlying22 Try.infoU8 rfl (by decide) (.slice a2 KB.length e2) KB.length (KB.map (Value.int .u8)) rfl hown4 a4 TB.length e4 (TB.map (Value.int .u8)) rfl ha4 hr4 (by simp) (ints_one .u8 _) (by omega) (by decide) ?_); intro v5 w5 hown5 hg5 hbl5; clear hown4 hbl4 hg5 hr4 hX2 x1 x2 x3)
    go_ret
    refine ⟨_, rfl, ?_, hbl5⟩
    rw [HF.out, List.length_append, List.map_append]
    exact hown5
  · have hTl4 : TB.length = 8 := by rw [TBk.out]; simp [tail, low_len]
    have hvk := rlow_any n 8 (by omega) ⟨hn0, hn1⟩ w2
    rw [show low n 8 = TB by rw [TBk.out]; simp [tail]] at hvk
    have HVK := Lib.hid hvk
    have HT4 := Lib.hid hTl4
    clear hvk hTl4
    go_wp2_with fail
    refine HVK.out.mono ?_
    rintro e w4 ⟨v4, rfl, hv4, hb4⟩
    rw [← HT4.out] at hv4
    obtain ⟨a4, e4, rfl, -, -, ha4, hr4, -⟩ := hv4.form
    have hown4 := hown2.below hb4
    have hbl4 := hbl2.trans (hb4.mono hbl2.size)
    clear HVK hown2 hbl2 hb4 hv4
    go_wp2_with (at_builtin; go_must (refine wpList_app' w hbl4 rfl (.tmp 24) (.tmp 27) 22 rfl 5 (.int .u8 0) 1 1 Try.underlying22 Try.infoU8 rfl (by decide) (.slice a2 KB.length e2) KB.length (KB.map (Value.int .u8)) rfl hown4 a4 TB.length e4 (TB.map (Value.int .u8)) rfl ha4 hr4 (by simp) (ints_one .u8 _) (by omega) (by decide) ?_); intro v5 w5 hown5 hg5 hbl5; clear hown4 hbl4 hg5 hr4 hX2 x1 x2 x3)
    go_ret
    refine ⟨_, rfl, ?_, hbl5⟩
    rw [HF.out, List.length_append, List.map_append]
    exact hown5
  · have hvk := rbytes_any (bs.length : Int).toNat (bs.length : Int) (Nat.le_refl _) (by omega) (by omega) w2
    obtain ⟨LB, hLB⟩ : ∃ LB, LB = vb (bs.length : Int) := ⟨_, rfl⟩
    rw [← hLB] at hvk
    have HVK := Lib.hid hvk
    have hTB2 : TB = LB ++ bs := by rw [TBk.out, hLB]; simp [tail]
    have HTB2 := Lib.hid hTB2
    have hLl : LB.length ≤ 10 := by rw [hLB]; exact vb_len10 _ (by omega)
    clear hvk hTB2 hLB
    go_wp2_with fail
    refine HVK.out.mono ?_
    rintro e w4 ⟨v4, rfl, hv4, hb4⟩
    obtain ⟨a4, e4, rfl, -, -, ha4, hr4, -⟩ := hv4.form
    have hown4 := hown2.below hb4
    have hbl4 := hbl2.trans (hb4.mono hbl2.size)
    have hX4 := hX2.keep hb4
    have hne4 := hX4.not_row (by decide) hown4
    clear HVK hown2 hbl2 hb4 hv4 hX2 x1 x2 x3
    go_wp2_with (first
      | (at_builtin; refine wpList_app' w hbl4 rfl (.tmp 36) (.tmp 41) 22 rfl 5 (.int .u8 0) 1 1 Try.underlying22 Try.infoU8 rfl (by decide) (.slice a2 KB.length e2) (KB.length) (KB.map (Value.int .u8)) rfl hown4 a4 LB.length e4 (LB.map (Value.int .u8)) rfl ha4 hr4 (by simp) (ints_one .u8 _) (by omega) (by decide) ?_; intro v5 w5 hown5 hg5 hbl5; have hX5 := hX4.grown hg5 hne4; have y3 := hX5.cell 3 rfl; obtain ⟨c6, w6, hcv, hr6, hb6⟩ := conv_str_bytes (P := Try.prog) w5 9 22 5 Try.underlying9 Try.underlying22 Try.underlying5 bs hxb; have hown6 := hown5.below hb6; have hbl6 := hbl5.trans (hb6.mono hbl5.size); clear hown4 hbl4 hg5 hr4 hX4 hX5 hown5 hbl5 hb6)
      | (at_builtin; refine wpList_app' w hbl6 rfl (.tmp 43) (.tmp 46) 22 rfl 5 (.int .u8 0) 1 1 Try.underlying22 Try.infoU8 rfl (by decide) v5 (KB.length + LB.length) (KB.map (Value.int .u8) ++ LB.map (Value.int .u8)) rfl hown6 (some ⟨w5.heap.size, 0, none⟩) bs.length c6 (bs.map (Value.int .u8)) rfl (fun h => by cases h) hr6 (by simp) (ints_one .u8 _) (by omega) (by decide) ?_; intro v7 w7 hown7 hg7 hbl7; clear hown6 hbl6 hg7 hr6 hcv y3))
    go_ret
    refine ⟨_, rfl, ?_, hbl7⟩
    rw [HF.out, HTB2.out]
    simpa [Nat.add_assoc] using hown7
  · have hTl4 : TB.length = 4 := by rw [TBk.out]; simp [tail, low_len]
    have hvk := rlow_any n 4 (by omega) ⟨hn0, hn1⟩ w2
    rw [show low n 4 = TB by rw [TBk.out]; simp [tail]] at hvk
    have HVK := Lib.hid hvk
    have HT4 := Lib.hid hTl4
    clear hvk hTl4
    go_wp2_with fail
    refine HVK.out.mono ?_
    rintro e w4 ⟨v4, rfl, hv4, hb4⟩
    rw [← HT4.out] at hv4
    obtain ⟨a4, e4, rfl, -, -, ha4, hr4, -⟩ := hv4.form
    have hown4 := hown2.below hb4
    have hbl4 := hbl2.trans (hb4.mono hbl2.size)
    clear HVK hown2 hbl2 hb4 hv4
    go_wp2_with (at_builtin; go_must (refine wpList_app' w hbl4 rfl (.tmp 31) (.tmp 34) 22 rfl 5 (.int .u8 0) 1 1 Try.underlying22 Try.infoU8 rfl (by decide) (.slice a2 KB.length e2) KB.length (KB.map (Value.int .u8)) rfl hown4 a4 TB.length e4 (TB.map (Value.int .u8)) rfl ha4 hr4 (by simp) (ints_one .u8 _) (by omega) (by decide) ?_); intro v5 w5 hown5 hg5 hbl5; clear hown4 hbl4 hg5 hr4 hX2 x1 x2 x3)
    go_ret
    refine ⟨_, rfl, ?_, hbl5⟩
    rw [HF.out, List.length_append, List.map_append]
    exact hown5
end Go.Proofs.Ytoicahfpnnhgpaa
