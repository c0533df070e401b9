/-
  VarintBytes: the walk.
-/
import Derived.Test.YtfonljchocekgaaVknown
import Derived.Test.YtfonljchocekgaaVrow
import Derived.Test.YtfonljchocekgaaVsize
import Derived.Test.YtfonljchocekgaaVsame64
import Derived.Test.YtfonljchocekgaaVrefbytes
import Derived.Test.YtfonljchocekgaaOpen
namespace Go.Proofs.Ytfonljchocekgaa
open Go.RowKit Go.Vint

set_option maxHeartbeats 1000000 in
theorem bytes_walk {w : World} (a : Option Addr) (c0 : Nat) (A : List Int) (hn0 : A.length ≤ c0) (hc0 : c0 ≤ maxLen) (_hca : a = none → c0 = 0) (hra : Rd w a (A.map (Value.int .u64))) (hwA : ∀ n ∈ A, (Lit.int .u64 n).wf = true)
    (n : Int) (hwn : (Lit.int .i64 n).wf = true) (u : Int) (hwu : (Lit.int .u64 u).wf = true) :
    Calls Try.prog 5 #[.slice a A.length c0, .int .i64 n, .int .u64 u] w fun e w' => e = .returned (.bool true) ∧ Below w.heap.size w w' := by
  have hbA : ∀ x ∈ A, 0 ≤ x ∧ x ≤ 18446744073709551615 := fun x hx => bd_u64 (hwA x hx)
  have hn := bd_i64 hwn
  have hu := bd_u64 hwu
  clear hwA hwn hwu
  obtain ⟨n0, hA⟩ : ∃ n0, A.length = n0 := ⟨_, rfl⟩
  rw [hA] at hn0 ⊢
  unfold maxLen at hc0
  go_enter Try.func5, Try.ntmps5
  obtain ⟨z0, hz0⟩ : ∃ z : Int, (if (50 : Int) < (n0 : Int) then (50 : Int) else (n0 : Int)) = z := ⟨_, rfl⟩
  obtain ⟨L, hL⟩ : ∃ L, L = A.take 50 := ⟨_, rfl⟩
  have e0 : z0.toNat = L.length := by rw [hL, List.length_take, hA, ← hz0]; split <;> omega
  have hz1 : 0 ≤ z0 ∧ z0 ≤ c0 := by rw [← hz0]; split <;> omega
  have hr : Rd w a (L.map (Value.int .u64)) := by rw [hL, List.map_take]; exact hra.take 50
  have hL2 : L.length ≤ 50 := by rw [hL, List.length_take]; omega
  have hLc : L.length ≤ c0 := by omega
  have hb : ∀ x ∈ L, 0 ≤ x ∧ x ≤ 18446744073709551615 := by rw [hL]; exact fun x hx => hbA x (List.mem_of_mem_take hx)
  clear hL hA hra hbA
  go_wp2
  clear hz0 e0 hz1
  go_loopw [7, 8] (fun o i wr => ∃ k : Nat, k ≤ L.length ∧ i = .int .i64 k ∧ wr.ownsRow w.heap.size 5 1 o (vbs (L.take k)).length ((vbs (L.take k)).map (Value.int .u8)) ∧ Below w.heap.size w wr) (fun _ i _ => L.length - (intOf i).toNat)
  case atStart => exact ⟨0, Nat.zero_le _, rfl, World.ownsRow_nil _ _ _ _, Below.refl _ _⟩
  case round =>
    obtain ⟨k, hk, rfl, hown, hbl⟩ := hrel
    by_cases hlt : k < L.length
    · obtain ⟨b, off, rfl, hcell, _⟩ := (hr.keep hbl).at (i := k) (v := .int .u64 L[k]) (by simp [hlt])
      have hx := hb L[k] (by simp)
      have hA : (vbs (L.take k)).length ≤ 10 * k := by
        have := vbs_len (L.take k) (fun x hx => (hb x (List.mem_of_mem_take hx)).2)
        simp at this; omega
      have HT : Hid (vbs (L.take (k + 1)) = vbs (L.take k) ++ vb L[k]) := by rw [List.take_succ_eq_append_getElem hlt, vbs_snoc]; rfl
      have hlb := vb_len10 L[k] hx.2
      go_wp2_with fail
      refine (rbytes_any _ L[k] (Nat.le_refl _) hx.1 hx.2 _).mono ?_
      rintro e w1 ⟨v1, rfl, hown1, hb1⟩
      obtain ⟨a1, c1, rfl, -, -, hz1, hr1, -⟩ := hown1.form
      have hcell1 : w1.cell? ⟨b, off + k, none⟩ = some (.int .u64 L[k]) := by
        rw [hb1.cell (by exact World.block_lt_of_cell? _ _ hcell)]; exact hcell
      have hown' := hown.below hb1
      have hbl1 := hbl.trans (hb1.mono hbl.size)
      clear hown hown1 hb1 hcell hbl
      go_wp2_with fail
      refine (vsize_any _ hx.1 hx.2 _).mono ?_
      rintro e w2 ⟨rfl, rfl⟩
      go_wp2_with (at_builtin; go_must (refine wpList_app' w hbl1 rfl (.tmp 38) (.tmp 39) 24 rfl 5 (.int .u8 0) 1 1 Try.underlying24 Try.infoU8 rfl (by decide) u7 _ _ rfl hown' a1 (vb L[k]).length c1 ((vb L[k]).map (Value.int .u8)) rfl hz1 hr1 (by simp) (ints_one .u8 _) (by omega) (by decide) ?_); intro v3 w3 hown3 _ hb3)
      clear hbl1 hown' hr1 hcell1
      go_wp2
      go_roundw
      case rel => exact ⟨k + 1, by omega, by go_num, by rw [HT.out]; simpa using hown3, hb3⟩
      case measure => simp [intOf] <;> omega
    · obtain rfl : k = L.length := by omega
      rw [List.take_length] at hown
      obtain ⟨a0, d0, rfl, -, -, -, hr0, -⟩ := hown.form
      have hra := hr.keep hbl
      have hlB := vbs_len L (fun x hx => (hb x hx).2)
      have HROW := Lib.hid (row_vbs L hb)
      have hvb := vbs_bd L hb
      clear hown
      go_wp2_with fail
      refine (vbytes_any a c0 L hb (by omega) _ hra).mono ?_
      rintro e w1 ⟨v1, rfl, hown1, hb1⟩
      obtain ⟨a1, c1, rfl, hc1, hm1, -, hr1, -⟩ := hown1.form
      have hra1 := hra.keep hb1
      have hr01 := hr0.keep hb1
      have hbl1 := hbl.trans (hb1.mono hbl.size)
      clear hown1 hb1 hbl hra hr0
      go_wp2_with fail
      refine (vrow_any a1 c1 (vbs L) hvb (by omega) hc1 hm1 _ hr1).mono ?_
      rintro e w2 ⟨⟨v2, he, hown2⟩, hb2⟩
      rw [HROW.out] at he hown2
      simp only at he hown2
      subst he
      obtain ⟨a2, c2, rfl, -, -, -, hr2, -⟩ := hown2.form
      have hra2 := hra1.keep hb2
      have hr02 := hr01.keep hb2
      have hr12 := hr1.keep hb2
      have hbl2 := hbl1.trans (hb2.mono hbl1.size)
      clear hown2 hb2 hbl1 hra1 hr01 hr1
      go_wp2_with fail
      refine (vknown_any _).mono ?_
      rintro e w3 ⟨rfl, hb3⟩
      have hra3 := hra2.keep hb3
      have hr03 := hr02.keep hb3
      have hr13 := hr12.keep hb3
      have hr23 := hr2.keep hb3
      have hbl3 := hbl2.trans (hb3.mono hbl2.size)
      clear hb3 hbl2 hra2 hr02 hr12 hr2
      go_wp2_with fail
      refine (rsame_any a1 a0 _ _ (vbs L) (vbs L) (by omega) (by omega) _ hr13 hr03).mono ?_
      rintro e w4 ⟨rfl, n4, rfl⟩
      simp only [decide_true]
      go_wp2_with fail
      refine (lsame_any a2 a _ _ L L (by omega) (by omega) (w3.drewN n4) hr23 hra3).mono ?_
      rintro e w5 ⟨rfl, n5, rfl⟩
      simp only [decide_true]
      have hbl5 := below_drewN (below_drewN hbl3 n4) n5
      clear hbl3 hra3 hr03 hr13 hr23
      have hz := zig_bd n hn.1 hn.2
      have hg := zag_bd u hu.1 hu.2
      have hzz := zag_zig n
      have hgg := zig_zag u hu.1
      generalize (w3.drewN n4).drewN n5 = w5 at *
      have HZ := Lib.hid hzz
      have HG := Lib.hid hgg
      clear hzz hgg
      go_wp2_with fail
      refine (vzig_any n hn.1 hn.2 _).mono ?_
      rintro e w6 ⟨rfl, rfl⟩
      go_wp2_with fail
      refine (rzig_any n hn.1 hn.2 _).mono ?_
      rintro e w6 ⟨rfl, rfl⟩
      go_wp2_with fail
      refine (vzag_any u hu.1 hu.2 _).mono ?_
      rintro e w6 ⟨rfl, rfl⟩
      go_wp2_with fail
      refine (rzag_any u hu.1 hu.2 _).mono ?_
      rintro e w6 ⟨rfl, rfl⟩
      go_wp2_with fail
      refine (vzig_any n hn.1 hn.2 _).mono ?_
      rintro e w6 ⟨rfl, rfl⟩
      go_wp2_with fail
      refine (vzag_any (zig n) hz.1 hz.2 _).mono ?_
      rintro e w6 ⟨rfl, rfl⟩
      rw [HZ.out]
      go_wp2_with fail
      refine (vzag_any u hu.1 hu.2 _).mono ?_
      rintro e w6 ⟨rfl, rfl⟩
      go_wp2_with fail
      refine (vzig_any (zag u) hg.1 hg.2 _).mono ?_
      rintro e w6 ⟨rfl, rfl⟩
      rw [HG.out]
      go_wp2
      go_ret
      exact ⟨rfl, hbl5⟩
end Go.Proofs.Ytfonljchocekgaa
