/-
  graticulelaw10.Cut, graticulelaw11.Cut.
-/
import Derived.Test.YtdginfjlelpkmaaFc
import Derived.Test.YtdginfjlelpkmaaAppL
set_option linter.unusedVariables false
set_option linter.unusedSimpArgs false
set_option maxRecDepth 100000
namespace Go
open Go.RowKit
def cutS (s : ByteArray) : ByteArray := s.extract 0 (min s.size 100)
def cutA (a : At) : At := ⟨cutS a.key, a.kind, cutS a.text, a.n⟩
def AtOk (a : At) : Prop := a.key.size ≤ maxLen ∧ a.text.size ≤ maxLen
theorem cutS_ok (s : ByteArray) : (cutS s).size ≤ maxLen := by unfold cutS maxLen; simp; omega
theorem cutA_ok (a : At) : AtOk (cutA a) := ⟨cutS_ok _, cutS_ok _⟩
end Go
namespace Go.Proofs.Ytdginfjlelpkmaa
open Go.RowKit
set_option maxHeartbeats 800000 in
theorem cut10_any (k n : Int) (s : ByteArray) (hs : s.size ≤ maxLen) (w : World) :
    Calls Try.prog 43 #[.agg #[.int .i64 k, .string s, .int .i64 n]] w fun e w' => e = .returned (.agg #[.int .i64 k, .string (cutS s), .int .i64 n]) ∧ Below w.heap.size w w' := by
  have hs2 : s.size ≤ 9223372036854775807 := by unfold maxLen at hs; omega
  obtain ⟨z0, hz0⟩ : ∃ z : Int, (if (100 : Int) < (s.size : Int) then (100 : Int) else (s.size : Int)) = z := ⟨_, rfl⟩
  have e0 : z0.toNat = min s.size 100 := by rw [← hz0]; split <;> omega
  have hz1 : 0 ≤ z0 ∧ z0 ≤ (s.size : Int) := by rw [← hz0]; split <;> omega
  have HC : Hid (cutS s = s.extract 0 (min s.size 100)) := Lib.hid rfl
  generalize cutS s = CS at *
  go_enter Try.func43, Try.ntmps43
  go_wp2
  refine bodyPost_ret (v := .agg #[.int .i64 k, .string CS, .int .i64 n]) ?_ rfl ⟨rfl, (Below.new _ _).alloc (by simp) _⟩
  rw [← HC.out]
  simp [results, Try.results43, go_sem]

set_option maxHeartbeats 3200000 in
theorem cut11_any (a : Option Addr) (c : Nat) (l : List At) (hlc : l.length ≤ c) (hcm : c ≤ maxLen) (hok : ∀ x ∈ l, AtOk x) (w : World) (hr : Rd w a (ats l)) :
    Calls Try.prog 22 #[.slice a l.length c] w fun e w' => ∃ v, e = .returned v ∧ w'.ownsRow w.heap.size 92 4 v ((l.take 10).map cutA).length (ats ((l.take 10).map cutA)) ∧ Below w.heap.size w w' := by
  have HC := Lib.hid (fun k n s hs w => cut10_any k n s hs w)
  have HOK := Lib.hid hok
  have HR := Lib.hid hr
  unfold maxLen at hcm
  obtain ⟨N, hN⟩ : ∃ N, l.length = N := ⟨_, rfl⟩
  have HN := Lib.hid hN
  rw [hN] at hlc ⊢
  have hml : ((l.take 10).map cutA).length = min 10 N := by rw [List.length_map, List.length_take, hN]
  rw [hml]
  clear hr hN hok hml
  go_enter Try.func22, Try.ntmps22
  go_wp2
  go_loopw [3, 4] (fun o i wr => ∃ k : Nat, k ≤ N ∧ k ≤ 10 ∧ i = .int .i64 k ∧ wr.ownsRow w.heap.size 92 4 o k (ats ((l.take k).map cutA)) ∧ Below w.heap.size w wr) (fun _ i _ => 10 - (intOf i).toNat)
  case atStart => exact ⟨0, by omega, by omega, rfl, World.ownsRow_nil _ _ _ _, Below.refl _ _⟩
  case round =>
    obtain ⟨i, hi, hi10, rfl, ho, hbl⟩ := hrel
    by_cases hlt : i < N ∧ i < 10
    · obtain ⟨h1, h2⟩ := hlt
      have h1' : (i : Int) < (N : Int) := by omega
      have h2' : (i : Int) < 10 := by omega
      have hil : i < l.length := by rw [HN.out]; exact h1
      obtain ⟨b1, o1, rfl, hbb, c0, c1, c2, c3⟩ := HR.out.atr i hil
      obtain ⟨k1, k2⟩ := HOK.out l[i] (List.getElem_mem hil)
      have HSN : Hid (ats ((l.take (i + 1)).map cutA) = ats ((l.take i).map cutA) ++ (cutA l[i]).cells) := Lib.hid (by
        rw [List.take_succ_eq_append_getElem hil, List.map_append, List.map_singleton, ats_snoc])
      have hcc : (cutA l[i]).cells = [.string (cutS l[i].key), .int .i64 l[i].kind, .string (cutS l[i].text), .int .i64 l[i].n] := rfl
      rw [hcc] at HSN
      have HC10 := Lib.hid (fun w => HC.out l[i].kind l[i].n l[i].text k2 w)
      generalize cutS l[i].text = T2 at *
      obtain ⟨K1, hK1⟩ : ∃ K, l[i].key = K := ⟨_, rfl⟩
      rw [hK1] at c0 HSN k1 hcc
      obtain ⟨K2, hK2⟩ : ∃ K, cutS K1 = K := ⟨_, rfl⟩
      rw [hK2] at HSN
      obtain ⟨z0, hz0⟩ : ∃ z : Int, (if (100 : Int) < (K1.size : Int) then (100 : Int) else (K1.size : Int)) = z := ⟨_, rfl⟩
      have e0 : z0.toNat = min K1.size 100 := by rw [← hz0]; split <;> omega
      have hz1 : 0 ≤ z0 ∧ z0 ≤ (K1.size : Int) := by rw [← hz0]; split <;> omega
      have hks : K1.extract 0 (min K1.size 100) = K2 := hK2
      generalize l[i].kind = kd at *
      generalize l[i].text = T1 at *
      generalize l[i].n = nn at *
      clear hK1 hK2 hcc k2
      unfold maxLen at k1
      go_wp2
      refine wp_region_lit_txt [0, 1, 2, 3, 4, 5, 6, 7, 8, 9, 10, 11, 12, 13, 14, 15, 16, 17, 18, 20, 23] (fun W => Below w.heap.size w W) (by kernel_rfl) (by kernel_rfl) (by kernel_rfl) (hbl.drew) ?_
      (refine txt_light ?_ rfl rfl ?_ ?_; rotate_left; · (intro w' hS; (try dsimp only at hS); go_simp; with_reducible rfl)); try simp only [Act.put, List.setIfInBounds_toArray, List.set_cons_zero, List.set_cons_succ]
      (refine txt_light ?_ rfl rfl ?_ ?_; rotate_left; · (intro w' hS; (try dsimp only at hS); go_simp; with_reducible rfl)); try simp only [Act.put, List.setIfInBounds_toArray, List.set_cons_zero, List.set_cons_succ]
      (refine txt_light ?_ rfl rfl ?_ ?_; rotate_left; · (intro w' hS; (try dsimp only at hS); go_simp; with_reducible rfl)); try simp only [Act.put, List.setIfInBounds_toArray, List.set_cons_zero, List.set_cons_succ]
      (refine txt_light ?_ rfl rfl ?_ ?_; rotate_left; · (intro w' hS; (try dsimp only at hS); go_simp; with_reducible rfl)); try simp only [Act.put, List.setIfInBounds_toArray, List.set_cons_zero, List.set_cons_succ]
      (refine txt_light ?_ rfl rfl ?_ ?_; rotate_left; · (intro w' hS; (try dsimp only at hS); go_simp; with_reducible rfl)); try simp only [Act.put, List.setIfInBounds_toArray, List.set_cons_zero, List.set_cons_succ]
      refine txt_light (.string K1) rfl rfl ?_ ?_
      · intro w' hS
        have e0 := (hS.cell (p := ⟨b1, o1 + i * 4, none⟩) hbb).trans c0
        go_simp
      try simp only [Act.put, List.setIfInBounds_toArray, List.set_cons_zero, List.set_cons_succ]
      (refine txt_light ?_ rfl rfl ?_ ?_; rotate_left; · (intro w' hS; (try dsimp only at hS); go_simp; with_reducible rfl)); try simp only [Act.put, List.setIfInBounds_toArray, List.set_cons_zero, List.set_cons_succ]
      (refine txt_light ?_ rfl rfl ?_ ?_; rotate_left; · (intro w' hS; (try dsimp only at hS); go_simp; with_reducible rfl)); try simp only [Act.put, List.setIfInBounds_toArray, List.set_cons_zero, List.set_cons_succ]
      (refine txt_light ?_ rfl rfl ?_ ?_; rotate_left; · (intro w' hS; (try dsimp only at hS); go_simp; with_reducible rfl)); try simp only [Act.put, List.setIfInBounds_toArray, List.set_cons_zero, List.set_cons_succ]
      (refine txt_light ?_ rfl rfl ?_ ?_; rotate_left; · (intro w' hS; (try dsimp only at hS); go_simp; with_reducible rfl)); try simp only [Act.put, List.setIfInBounds_toArray, List.set_cons_zero, List.set_cons_succ]
      refine txt_light (.string K1) rfl rfl ?_ ?_
      · intro w' hS
        have e0 := (hS.cell (p := ⟨b1, o1 + i * 4, none⟩) hbb).trans c0
        go_simp
      try simp only [Act.put, List.setIfInBounds_toArray, List.set_cons_zero, List.set_cons_succ]
      (refine txt_light ?_ rfl rfl ?_ ?_; rotate_left; · (intro w' hS; (try dsimp only at hS); go_simp; with_reducible rfl)); try simp only [Act.put, List.setIfInBounds_toArray, List.set_cons_zero, List.set_cons_succ]
      refine txt_light (.int .i64 z0) rfl rfl ?_ ?_
      · intro w' hS
        go_simp
      try simp only [Act.put, List.setIfInBounds_toArray, List.set_cons_zero, List.set_cons_succ]
      refine txt_light (.string K2) rfl rfl ?_ ?_
      · intro w' hS
        go_simp
      try simp only [Act.put, List.setIfInBounds_toArray, List.set_cons_zero, List.set_cons_succ]
      (refine txt_light ?_ rfl rfl ?_ ?_; rotate_left; · (intro w' hS; (try dsimp only at hS); go_simp; with_reducible rfl)); try simp only [Act.put, List.setIfInBounds_toArray, List.set_cons_zero, List.set_cons_succ]
      (refine txt_light ?_ rfl rfl ?_ ?_; rotate_left; · (intro w' hS; (try dsimp only at hS); go_simp; with_reducible rfl)); try simp only [Act.put, List.setIfInBounds_toArray, List.set_cons_zero, List.set_cons_succ]
      (refine txt_light ?_ rfl rfl ?_ ?_; rotate_left; · (intro w' hS; (try dsimp only at hS); go_simp; with_reducible rfl)); try simp only [Act.put, List.setIfInBounds_toArray, List.set_cons_zero, List.set_cons_succ]
      (refine txt_light ?_ rfl rfl ?_ ?_; rotate_left; · (intro w' hS; (try dsimp only at hS); go_simp; with_reducible rfl)); try simp only [Act.put, List.setIfInBounds_toArray, List.set_cons_zero, List.set_cons_succ]
      refine txt_light (.agg #[.int .i64 kd, .string T1, .int .i64 nn]) rfl rfl ?_ ?_
      · intro w' hS
        have e1 := (hS.cell (p := ⟨b1, o1 + i * 4 + 1, none⟩) hbb).trans c1
        have e2 := (hS.cell (p := ⟨b1, o1 + i * 4 + 2, none⟩) hbb).trans c2
        have e3 := (hS.cell (p := ⟨b1, o1 + i * 4 + 3, none⟩) hbb).trans c3
        go_simp
      try simp only [Act.put, List.setIfInBounds_toArray, List.set_cons_zero, List.set_cons_succ]
      have ho0 : wr.drew.ownsRow w.heap.size 92 4 u3 i (ats ((l.take i).map cutA)) := ho
      have hbd : Below w.heap.size w wr.drew := hbl.drew
      generalize wr.drew = W0 at *
      refine txt_call [.agg #[.int .i64 kd, .string T1, .int .i64 nn]] Try.f43 rfl rfl Try.func43 (by kernel_rfl) (by kernel_rfl) rfl ((HC10.out _).mono ?_)
      rintro e W1 ⟨rfl, hx1⟩
      have ho1 := ho0.below hx1
      have hb1 := hbd.trans (hx1.mono hbd.size)
      refine ⟨_, rfl, hb1, ?_⟩
      clear hx1 ho0 hbd
      try simp only [Act.put, List.setIfInBounds_toArray, List.set_cons_zero, List.set_cons_succ]
      refine txt_light (.agg #[.string K2, .int .i64 kd, .string T2, .int .i64 nn]) rfl rfl ?_ ?_
      · intro w' hS
        go_simp
      try simp only [Act.put, List.setIfInBounds_toArray, List.set_cons_zero, List.set_cons_succ]
      refine txt_heavy rfl rfl (fun K hK => ?_)
      go_step
      have ho2 := ho1.below (Below.new W1 (.cells #[.string K2, .int .i64 kd, .string T2, .int .i64 nn] 92))
      have hb2 := hb1.alloc hb1.size (.cells #[.string K2, .int .i64 kd, .string T2, .int .i64 nn] 92)
      have rd := Rd.lit W1 W1.heap.size [.string K2, .int .i64 kd, .string T2, .int .i64 nn] 92 rfl
      refine hK.out _ _ hb2 ?_
      clear hK K ho1 hb1
      generalize W1.alloc (.cells #[.string K2, .int .i64 kd, .string T2, .int .i64 nn] 92) = W2 at *
      try simp only [Act.put, List.setIfInBounds_toArray, List.set_cons_zero, List.set_cons_succ]
      refine txt_app w hb2 rfl rfl (.tmp 15) (.tmp 36) 47 rfl 92 (.agg #[.string ⟨#[]⟩, .int .i64 0, .string ⟨#[]⟩, .int .i64 0]) 4 48 Try.underlying47 Try.infoAt rfl (by decide) u3 i (ats ((l.take i).map cutA)) rfl ho2 (some ⟨W1.heap.size, 0, none⟩) 1 1 [.string K2, .int .i64 kd, .string T2, .int .i64 nn] rfl (fun h => by cases h) rd rfl (by simp [Value.oneCell']) (by omega) (by decide) ?_
      intro v3 W3 ho3 hg3 hb3
      refine ⟨hb3, ?_⟩
      try simp only [Act.put, List.setIfInBounds_toArray, List.set_cons_zero, List.set_cons_succ]
      (refine txt_light ?_ rfl rfl ?_ ?_; rotate_left; · (intro w' hS; (try dsimp only at hS); go_simp; with_reducible rfl)); try simp only [Act.put, List.setIfInBounds_toArray, List.set_cons_zero, List.set_cons_succ]
      refine txt_nil ?_
      clear c0 c1 c2 c3 ho2 hb2 hg3 rd
      have HO9 : Hid (W3.ownsRow w.heap.size 92 4 v3 (i + 1) (ats ((l.take (i + 1)).map cutA))) := Lib.hid (by rw [HSN.out]; exact ho3)
      clear ho3
      go_wp2
      exact ⟨⟨i + 1, by omega, by omega, by go_num, by have := HO9.out; simpa only [List.map_take] using this, hb3⟩, by simp [intOf]; omega⟩
    · have HML : Hid (i = min 10 N) := Lib.hid (by omega)
      have HTK : Hid (l.take i = l.take 10) := Lib.hid (by
        by_cases h10 : i = 10
        · rw [h10]
        · rw [List.take_of_length_le (by rw [HN.out]; omega), List.take_of_length_le (by rw [HN.out]; omega)])
      have HO9 : Hid (wr.ownsRow w.heap.size 92 4 u3 (min 10 N) (ats ((l.take 10).map cutA))) := Lib.hid (by rw [← HML.out, ← HTK.out]; exact ho)
      by_cases h1 : i < N
      · have h1' : (i : Int) < (N : Int) := by omega
        have h2' : ¬ (i : Int) < 10 := by omega
        go_wp2
        go_ret
        exact ⟨u3, rfl, by have := HO9.out; simpa only [List.map_take] using this, hbl⟩
      · have h1' : ¬ (i : Int) < (N : Int) := by omega
        go_wp2
        go_ret
        exact ⟨u3, rfl, by have := HO9.out; simpa only [List.map_take] using this, hbl⟩
end Go.Proofs.Ytdginfjlelpkmaa
