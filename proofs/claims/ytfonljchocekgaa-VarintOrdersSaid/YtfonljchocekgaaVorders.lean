/-
  VarintOrders: the walk.
-/
import Derived.Test.YtfonljchocekgaaVknown
import Derived.Test.YtfonljchocekgaaVsize
import Derived.Test.YtfonljchocekgaaOpen
namespace Go.Proofs.Ytfonljchocekgaa
open Go.RowKit Go.Vint

theorem Try.infoU64 : (Try.prog.info? 23).map (fun i => (i.zero, i.size, i.bytes)) = some (some (.int .u64 0), 1, 8) := by kernel_rfl

theorem orders_walk {w : World} (a : Option Addr) (c0 : Nat) (A : List Int) (hn0 : A.length ≤ c0) (hc0 : c0 ≤ maxLen) (hca : a = none → c0 = 0) (hra : Rd w a (A.map (Value.int .u64))) (hwA : ∀ n ∈ A, (Lit.int .u64 n).wf = true)
    (b : Option Addr) (c1 : Nat) (B : List Int) (hn1 : B.length ≤ c1) (hc1 : c1 ≤ maxLen) (hcb : b = none → c1 = 0) (hrb : Rd w b (B.map (Value.int .u64))) (hwB : ∀ n ∈ B, (Lit.int .u64 n).wf = true)
    (n : Int) (hwn : (Lit.int .u64 n).wf = true) (m : Int) (hwm : (Lit.int .u64 m).wf = true) (cut : Int) (_hwc : (Lit.int .i64 cut).wf = true) :
    Calls Try.prog 3 #[.slice a A.length c0, .slice b B.length c1, .int .u64 n, .int .u64 m, .int .i64 cut] w fun e w' => e = .returned (.bool true) ∧ Below w.heap.size w w' := by
  have hbA : ∀ x ∈ A, 0 ≤ x ∧ x ≤ 18446744073709551615 := fun x hx => bd_u64 (hwA x hx)
  have hbB : ∀ x ∈ B, 0 ≤ x ∧ x ≤ 18446744073709551615 := fun x hx => bd_u64 (hwB x hx)
  have hn := bd_u64 hwn
  have hm := bd_u64 hwm
  clear hwA hwB hwn hwm
  unfold maxLen at hc0 hc1
  obtain ⟨n0, hA⟩ : ∃ n0, A.length = n0 := ⟨_, rfl⟩
  obtain ⟨n1, hB⟩ : ∃ n1, B.length = n1 := ⟨_, rfl⟩
  rw [hA] at hn0 ⊢
  rw [hB] at hn1 ⊢
  go_enter Try.func3, Try.ntmps3
  go_wp2
  go_quiet (fail)
  generalize hz0 : (if (30 : Int) < (n0 : Int) then (30 : Int) else (n0 : Int)) = z0
  generalize hz1 : (if (30 : Int) < (n1 : Int) then (30 : Int) else (n1 : Int)) = z1
  obtain ⟨A', hA'⟩ : ∃ A', A' = A.take 30 := ⟨_, rfl⟩
  obtain ⟨B', hB'⟩ : ∃ B', B' = B.take 30 := ⟨_, rfl⟩
  have e0 : z0.toNat = A'.length := by rw [hA', List.length_take, hA, ← hz0]; split <;> omega
  have e1 : z1.toNat = B'.length := by rw [hB', List.length_take, hB, ← hz1]; split <;> omega
  rw [e0, e1]
  have hra' : Rd (w.drewN nq) a (A'.map (Value.int .u64)) := by rw [hA', List.map_take]; exact hra.take 30
  have hrb' : Rd (w.drewN nq) b (B'.map (Value.int .u64)) := by rw [hB', List.map_take]; exact hrb.take 30
  have hA3 : A'.length ≤ 30 := by rw [hA', List.length_take]; omega
  have hB3 : B'.length ≤ 30 := by rw [hB', List.length_take]; omega
  have hA4 : ∀ x ∈ A', 0 ≤ x ∧ x ≤ 18446744073709551615 := by rw [hA']; exact fun x hx => hbA x (List.mem_of_mem_take hx)
  have hB4 : ∀ x ∈ B', 0 ≤ x ∧ x ≤ 18446744073709551615 := by rw [hB']; exact fun x hx => hbB x (List.mem_of_mem_take hx)
  clear hz0 hz1 e0 e1 hA' hB' hA hB hra hrb hbA hbB hn0 hn1
  have hb0 : Below w.heap.size w (w.drewN nq) := below_drewN (Below.refl _ _) nq
  have hs0 := hb0.size
  generalize w.drewN nq = w1 at *
  go_wp2_with fail
  refine (vbytes_any a _ A' hA4 (by omega) _ hra').mono ?_
  rintro e w2 ⟨v2, rfl, hown2, hbl2⟩
  go_wp2_with fail
  refine (vbytes_any b _ B' hB4 (by omega) _ (hrb'.keep hbl2)).mono ?_
  rintro e w3 ⟨v3, rfl, hown3, hbl3⟩
  obtain ⟨a2, d2, rfl, -, -, hz2, hr2, -⟩ := hown2.form
  obtain ⟨a3, d3, rfl, -, -, hz3, hr3, -⟩ := hown3.form
  have hra3 := (hra'.keep hbl2).keep hbl3
  have hrb3 := (hrb'.keep hbl2).keep hbl3
  have hr23 := hr2.keep hbl3
  have hb3 : Below w.heap.size w w3 := (hb0.trans (hbl2.mono hs0)).trans (hbl3.mono (Nat.le_trans hs0 hbl2.size))
  have hs3 := hb3.size
  clear hown2 hown3 hr2 hbl2 hbl3 hra' hrb' hb0 hs0
  go_wp2_with (first | (at_builtin; refine wpList_app' w3 (Below.new w3 _) rfl (.tmp 33) (.tmp 34) 22 rfl 23 (.int .u64 0) 1 8 Try.underlying22 Try.infoU64 rfl (by decide) (.slice (some ⟨w3.heap.size, 0, none⟩) 0 0) 0 [] rfl (ownsRow_empty _ _ _) a A'.length c0 (A'.map (Value.int .u64)) rfl hca (hra3.alloc _) (by simp) (ints_one .u64 _) (by omega) (by decide) ?_; intro v4 w4 hown4 _ hb4) | (at_builtin; go_must (refine wpList_app' w3 hb4 rfl (.tmp 35) (.tmp 36) 22 rfl 23 (.int .u64 0) 1 8 Try.underlying22 Try.infoU64 rfl (by decide) v4 _ _ rfl hown4 b B'.length c1 (B'.map (Value.int .u64)) rfl hcb (hrb3.keep hb4) (by simp) (ints_one .u64 _) (by omega) (by decide) ?_); intro v5 w5 hown5 _ hb5))
  clear hown4 hb4
  simp only [Nat.zero_add, List.nil_append, ← List.map_append, ← List.length_append] at hown5
  obtain ⟨a5, d5, rfl, -, -, -, hr5, -⟩ := hown5.form
  refine (vbytes_any a5 _ (A' ++ B') (by simp only [List.mem_append]; rintro x (h | h); exact hA4 x h; exact hB4 x h) (by simp; omega) _ hr5).mono ?_
  rintro e w6 ⟨v6, rfl, hown6, hbl6⟩
  obtain ⟨a6, d6, rfl, -, -, -, hr6, -⟩ := hown6.form
  have hb36 := hb5.trans (hbl6.mono hb5.size)
  have hr26 := hr23.keep hb36
  have hr36 := hr3.keep hb36
  have hb6 := hb3.trans (hb36.mono hs3)
  have hs6 := hb6.size
  have hlA := vbs_len A' (fun x hx => (hA4 x hx).2)
  have hlB := vbs_len B' (fun x hx => (hB4 x hx).2)
  clear hown5 hr5 hown6 hbl6 hb5 hb36 hr23 hr3 hb3 hs3 hra3 hrb3 
  go_wp2_with (first | (at_builtin; refine wpList_app' w6 (Below.new w6 _) rfl (.tmp 40) (.tmp 41) 24 rfl 5 (.int .u8 0) 1 1 Try.underlying24 Try.infoU8 rfl (by decide) (.slice (some ⟨w6.heap.size, 0, none⟩) 0 0) 0 [] rfl (ownsRow_empty _ _ _) a2 (vbs A').length d2 ((vbs A').map (Value.int .u8)) rfl hz2 (hr26.alloc _) (by simp) (ints_one .u8 _) (by omega) (by decide) ?_; intro v7 w7 hown7 _ hb7) | (at_builtin; go_must (refine wpList_app' w6 hb7 rfl (.tmp 42) (.tmp 43) 24 rfl 5 (.int .u8 0) 1 1 Try.underlying24 Try.infoU8 rfl (by decide) v7 _ _ rfl hown7 a3 (vbs B').length d3 ((vbs B').map (Value.int .u8)) rfl hz3 (hr36.keep hb7) (by simp) (ints_one .u8 _) (by omega) (by decide) ?_); intro v8 w8 hown8 _ hb8))
  clear hown7 hb7
  simp only [Nat.zero_add, List.nil_append, ← List.map_append, ← List.length_append, ← vbs_append] at hown8
  obtain ⟨a8, d8, rfl, -, -, -, hr8, -⟩ := hown8.form
  have hlAB : (vbs (A' ++ B')).length ≤ 140737488355328 := by rw [vbs_append, List.length_append]; omega
  refine (rsame_any a6 a8 _ _ (vbs (A' ++ B')) (vbs (A' ++ B')) hlAB hlAB w8 (hr6.keep hb8) hr8).mono ?_
  rintro e w9 ⟨rfl, nq2, rfl⟩
  simp only [decide_true]
  have hb9 := below_drewN (hb6.trans (hb8.mono hs6)) nq2
  have hs9 := hb9.size
  generalize w8.drewN nq2 = w9 at *
  clear hown8 hr8 hr6 hr26 hr36 hb8 hb6 hs6 hlAB
  have hvbs : vbs [n] = vb n := by simp [vbs]
  have HVN := Lib.hid hvbs
  have hln := vb_len10 n hn.2
  have hpn := vb_pos n
  have hbn : ((((vb n).length : Nat) : Int) == 0) = false := by simp; exact vb_ne n
  clear hvbs
  obtain ⟨lo, hlo⟩ : ∃ lo, (if m < n then m else n) = lo := ⟨_, rfl⟩
  obtain ⟨hi, hhi⟩ : ∃ hi, (if n < m then m else n) = hi := ⟨_, rfl⟩
  have hlob : 0 ≤ lo ∧ lo ≤ 18446744073709551615 ∧ lo ≤ hi := by rw [← hlo, ← hhi]; split <;> split <;> omega
  have hhib : 0 ≤ hi ∧ hi ≤ 18446744073709551615 := by rw [← hhi]; split <;> omega
  have hmono := vb_mono hi lo hlob.2.2
  go_wp2_with fail
  refine (vsize_any _ (by omega) (by omega) _).mono ?_
  rintro e w10 ⟨rfl, rfl⟩
  go_wp2_with fail
  refine (vsize_any _ (by omega) (by omega) _).mono ?_
  rintro e w10 ⟨rfl, rfl⟩
  go_wp2_with fail
  refine (vsize_any _ (by omega) (by omega) _).mono ?_
  rintro e w10 ⟨rfl, rfl⟩
  go_wp2_with fail
  refine (vbytes_any _ 1 [n] (by simp; omega) (by simp) _ (Rd.lit _ _ [.int .u64 n] _ rfl)).mono ?_
  rintro e w10 ⟨v10, rfl, hown10, hbl10⟩
  rw [HVN.out] at hown10
  obtain ⟨a10, d10, rfl, -, -, -, -, -⟩ := hown10.form
  have hb10 := (hb9.alloc hs9 _).trans (hbl10.mono (by simp; omega))
  have hs10 := hb10.size
  clear hown10 hbl10
  go_wp2_with fail
  refine (vbytes_any _ 1 [n] (by simp; omega) (by simp) _ (Rd.lit _ _ [.int .u64 n] _ rfl)).mono ?_
  rintro e w11 ⟨v11, rfl, hown11, hbl11⟩
  rw [HVN.out] at hown11
  obtain ⟨a11, d11, rfl, hd11, hm11, hz11, hr11, -⟩ := hown11.form
  have hb11 := (hb10.alloc hs10 _).trans (hbl11.mono (by simp; omega))
  have hs11 := hb11.size
  clear hown11 hbl11
  obtain ⟨k, hkl, hk⟩ : ∃ k : Nat, k < (vb n).length ∧ wrap64 ((IntKind.u64.wrap cut).tmod (((vb n).length : Nat) : Int)) = (k : Int) := by
    have h0 : 0 ≤ IntKind.u64.wrap cut := by rw [IntKind.wrap_u64]; omega
    rw [Int.tmod_eq_emod_of_nonneg h0]
    have h1 := Int.emod_nonneg (IntKind.u64.wrap cut) (b := (((vb n).length : Nat) : Int)) (by omega)
    have h2 := Int.emod_lt_of_pos (IntKind.u64.wrap cut) (b := (((vb n).length : Nat) : Int)) (by omega)
    generalize IntKind.u64.wrap cut % (((vb n).length : Nat) : Int) = z at *
    refine ⟨z.toNat, by omega, ?_⟩
    rw [IntWalk.wrap64_in _ (by omega)]; omega
  have hkz : (vb n).take k = (vb n).take k := rfl
  have HRD := Lib.hid (rd_cut n hn.1 hn.2 k hkl)
  have hlk : ((vb n).take k).length = k := by simp; omega
  have hr12 : Rd w11 a11 (((vb n).take k).map (Value.int .u8)) := by rw [List.map_take]; exact hr11.take k
  have hbk : ∀ x ∈ (vb n).take k, 0 ≤ x ∧ x ≤ 255 := fun x hx => vb_bd n hn.1 x (List.mem_of_mem_take hx)
  generalize (vb n).take k = Z at *
  go_wp2_with fail
  have hz := vread_any a11 d11 Z hbk (by omega) w11 hr12
  rw [hlk] at hz
  refine hz.mono ?_
  rintro e w12 ⟨he, rfl⟩
  rw [HRD.out] at he
  simp only [Rd3] at he
  subst he
  clear hz hr12 hr11 hlk hmono
  go_wp2_with fail
  refine (vknown_any _).mono ?_
  rintro e w13 ⟨rfl, hbl13⟩
  go_wp2
  go_ret
  exact ⟨rfl, hb11.trans (hbl13.mono hs11)⟩
end Go.Proofs.Ytfonljchocekgaa
