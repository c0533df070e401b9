/-
  GeomTells: the walk.
-/
import Derived.Test.YtephdnahmgfmeaaGofs
import Derived.Test.YtephdnahmgfmeaaGrnum
import Derived.Test.YtephdnahmgfmeaaGref
import Derived.Test.YtephdnahmgfmeaaGknown
import Derived.Test.YtephdnahmgfmeaaVrefbytes
import Derived.Test.YtephdnahmgfmeaaVsame
set_option linter.unusedVariables false
set_option linter.unusedSimpArgs false
set_option maxRecDepth 100000
namespace Go.Proofs.Ytephdnahmgfmeaa
open Go.RowKit Go.Vint

set_option maxHeartbeats 3200000 in
theorem geomTells_walk {w : World} (kind : Int) (_wfk : (Lit.int .i64 kind).wf = true) (a : Option Addr) (c : Nat) (X : List PC) (hl : X.length ≤ c) (hm : c ≤ maxLen) (hn : a = none → c = 0) (hr0 : Rd w a (X.flatMap PC.cells)) (hok : ∀ y ∈ X, y.Ok w) :
    Calls Try.prog 4 #[.int .i64 kind, .slice a X.length c] w fun e w' => e = .returned (.bool true) ∧ Below w.heap.size w w' := by
  have hr : Rd w a (X.map PC.val) := by rw [← rings_map]; exact hr0
  have hcut := cut23_any a c X w hr hok (by omega)
  have hYl : ((X.take 10).map PC.cut).length ≤ 10 := by simp; omega
  have hYo : ∀ x ∈ (X.take 10).map PC.cut, x.Ok w ∧ x.l.length ≤ 1000 := by
    intro x hx
    obtain ⟨y, hy, rfl⟩ := List.mem_map.1 hx
    refine ⟨(hok y (List.mem_of_mem_take hy)).cut, ?_⟩
    simp [PC.cut]; omega
  generalize (X.take 10).map PC.cut = Y at *
  have hYW : ∀ W, Below w.heap.size w W → ∀ x ∈ Y, x.Ok W := fun W hW x hx => ⟨(hYo x hx).1.1.below hW (Nat.le_refl _), (hYo x hx).1.2⟩
  have hle : ∀ x ∈ Y, x.l.length ≤ 1000 := fun x hx => (hYo x hx).2
  obtain ⟨E, hE⟩ : ∃ E, checkE kind (Y.map (·.l)) = E := ⟨_, rfl⟩
  obtain ⟨R, hR⟩ : ∃ R, (if checkE kind (Y.map (·.l)) = 0 then numsF kind ⟨0, 0⟩ (Y.map (·.l)) else []) = R := ⟨_, rfl⟩
  have hgl : ∀ g ∈ Y.map (·.l), g.length ≤ 1000 := fun g hg => by
    obtain ⟨y, hy, rfl⟩ := List.mem_map.1 hg
    exact hle y hy
  have hRx : R.length ≤ 100000 ∧ ∀ x ∈ R, 0 ≤ x ∧ x ≤ 18446744073709551615 := by
    rw [← hR]
    by_cases h0 : checkE kind (Y.map (·.l)) = 0
    · rw [if_pos h0]
      obtain ⟨-, -, h3⟩ := checkE_zero h0
      have h4 : ∀ g ∈ Y.map (·.l), (2 ≤ g.length ∧ g.length ≤ 1000) ∧ ∀ p ∈ g, Close p := fun g hg => ⟨⟨(h3 g hg).1, hgl g hg⟩, (h3 g hg).2⟩
      refine ⟨?_, numsF_bd kind _ ⟨⟨by decide, by decide⟩, by decide, by decide⟩ h4⟩
      have := numsF_len kind (Y.map (·.l)) ⟨0, 0⟩ (fun g hg => ⟨by have := (h4 g hg).1.1; omega, (h4 g hg).1.2⟩)
      rw [List.length_map] at this
      omega
    · rw [if_neg h0]; simp
  obtain ⟨hRl, hRb⟩ := hRx
  have hofs := fun W a c h1 h2 => ofs23_any a c Y (by omega) hle W h1 h2
  have hnums := fun W a c h1 h2 => gnums_any kind a c Y (by omega) hle W h1 h2 R hR.symm
  have hbytes := fun W a c h1 h2 => gbytes_any kind a c Y (by omega) hle W h1 h2 R hR.symm (by omega) hRb
  have hchk := fun W a c h1 h2 => gcheck_any kind a c Y (by omega) hle W h1 h2
  rw [hE] at hnums hbytes hchk
  have hrchk : ∀ (Z : List PC), Z.map (·.l) = Y.map (·.l) → ∀ W a c, Rd W a (Z.map PC.val) → (∀ x ∈ Z, x.Ok W) → Calls Try.prog 10 #[.int .i64 kind, .slice a Y.length c] W fun e w' => e = .returned (.int .i64 E) ∧ Below W.heap.size W w' := by
    intro Z hZ W a c h1 h2
    have hlen : Z.length = Y.length := by have := congrArg List.length hZ; simpa using this
    have := rcheck23_any kind a c Z (by omega) (fun x hx => hgl _ (by rw [← hZ]; exact List.mem_map_of_mem hx)) W h1 h2
    rw [hZ, hE, hlen] at this
    exact this
  have hE0 : E = 0 → R = numsF kind ⟨0, 0⟩ (Y.map (·.l)) := fun h => by rw [← hR, if_pos (by rw [hE]; exact h)]
  have hrn : E = 0 → ∀ (Z : List PC), Z.map (·.l) = Y.map (·.l) → ∀ W a c, Rd W a (Z.map PC.val) → (∀ x ∈ Z, x.Ok W) → Calls Try.prog 14 #[.int .i64 kind, .slice a Y.length c] W fun e w' => ∃ v, e = .returned v ∧
      w'.ownsRow W.heap.size 44 1 v R.length (R.map (Value.int .u64)) ∧ Below W.heap.size W w' := by
    intro h0 Z hZ W a c h1 h2
    have hlen : Z.length = Y.length := by have := congrArg List.length hZ; simpa using this
    obtain ⟨hk, -, h3⟩ := checkE_zero (hE.trans h0)
    have := rnums_any kind hk a c Z (by omega) (fun x hx => hgl _ (by rw [← hZ]; exact List.mem_map_of_mem hx)) (fun x hx => h3 _ (by rw [← hZ]; exact List.mem_map_of_mem hx)) W h1 h2 R (by rw [hZ]; exact (hE0 h0).symm)
    rw [hlen] at this
    exact this
  have hread := fun (h0 : E = 0) a c h1 W h2 => gread_ok kind (Y.map (·.l)) (hE.trans h0) (by simp; omega) hgl a c R (hE0 h0).symm (by omega) h1 W h2
  have hparse := fun (h0 : E = 0) a c h1 h2 W h3 => gparse_ok kind (Y.map (·.l)) (hE.trans h0) (by simp; omega) hgl a c R (hE0 h0).symm (by omega) hRb h1 h2 W h3
  have hvl := vbs_len R (fun x hx => (hRb x hx).2)
  have hsame : ∀ (Z U : List PC), Z.map (·.l) = Y.map (·.l) → U.map (·.l) = Y.map (·.l) → ∀ W a b c d, Rd W a (Z.map PC.val) → Rd W b (U.map PC.val) → (∀ x ∈ Z, x.Ok W) → (∀ x ∈ U, x.Ok W) → Calls Try.prog 20 #[.slice a Y.length c, .slice b Y.length d] W fun e w' => e = .returned (.bool true) ∧ Below W.heap.size W w' := by
    intro Z U hZ hU W a b c d h1 h2 h3 h4
    have hlen : Z.length = Y.length := by have := congrArg List.length hZ; simpa using this
    have hlen2 : U.length = Y.length := by have := congrArg List.length hU; simpa using this
    have := l22same_ok a b c d Z U (hZ.trans hU.symm) (by omega) (fun x hx => hgl _ (by rw [← hZ]; exact List.mem_map_of_mem hx)) W h1 h2 h3 h4
    rw [hlen, hlen2] at this
    exact this
  simp only [List.length_map] at hread hparse
  obtain ⟨N, hN⟩ : ∃ N, Y.length = N := ⟨_, rfl⟩
  rw [hN] at hcut hofs hnums hbytes hchk hrchk hrn hread hparse hsame
  have HCUT := Lib.hid hcut
  have HOFS := Lib.hid hofs
  have HNUMS := Lib.hid hnums
  have HBYTES := Lib.hid hbytes
  have HCHK := Lib.hid hchk
  have HRCHK := Lib.hid hrchk
  have HRN := Lib.hid hrn
  have HREAD := Lib.hid hread
  have HPARSE := Lib.hid hparse
  have HSAME := Lib.hid hsame
  have HYW := Lib.hid hYW
  have HRB := Lib.hid hRb
  have HRe : Hid (E ≠ 0 → R = []) := Lib.hid fun h => by rw [← hR, if_neg (by rw [hE]; exact h)]
  clear hcut hofs hnums hbytes hchk hrchk hrn hread hparse hsame hYW hRb hr hr0 hok hYo hle hR hgl hE hE0 hN
  go_enter Try.func4, Try.ntmps4
  go_wp2_with fail
  refine HCUT.out.mono ?_
  rintro e w1 ⟨v1, rfl, hown1, hb1⟩
  obtain ⟨p1, c1, rfl, -, -, -, hr1, -⟩ := hown1.form
  have hs1 := hb1.size
  have HO := Lib.hid (HOFS.out w1 p1 c1 hr1 (HYW.out w1 hb1))
  clear HCUT HOFS hown1
  go_wp2_with fail
  refine HO.out.mono ?_
  rintro e w2 ⟨v2, vals, rfl, hown2, hin2, hb2'⟩
  obtain ⟨p2, c2, rfl, -, -, -, hr2, -⟩ := hown2.form
  obtain ⟨Z, rfl, hZ, hZo⟩ := hin2.rows
  have hb2 := hb1.trans (hb2'.mono hs1)
  have hs2 := hb2.size
  have hr1 := hr1.keep hb2'
  have hZW : ∀ W, Below w2.heap.size w2 W → ∀ x ∈ Z, x.Ok W := fun W hW x hx => (hZo x hx).keep hW
  have HZW := Lib.hid hZW
  have HZ := Lib.hid hZ
  have HC := Lib.hid (HRCHK.out Z hZ w2 p2 c2 hr2 hZo)
  clear HO HRCHK hown2 hin2 hb2' hZ hZo hZW hb1 hs1
  go_wp2_with fail
  refine HC.out.mono ?_
  rintro e w3 ⟨rfl, hb3⟩
  have hb3w := hb2.trans (hb3.mono hs2)
  have HN2 := Lib.hid (HNUMS.out w3 p1 c1 (hr1.keep hb3) (HYW.out w3 hb3w))
  clear HC HNUMS
  go_wp2_with fail
  refine HN2.out.mono ?_
  rintro e w4 ⟨v4, rfl, hown4, hb4⟩
  obtain ⟨p4, c4, rfl, hc4, -, -, hr4, -⟩ := hown4.form
  have hs3 := hb3.size
  have hb4' := hb3.trans (hb4.mono hs3)
  have hb4w := hb2.trans (hb4'.mono hs2)
  have HB := Lib.hid (HBYTES.out w4 p1 c1 (hr1.keep hb4') (HYW.out w4 hb4w))
  clear HN2 HBYTES hown4 hb3 hb4 hb3w
  go_wp2_with fail
  refine HB.out.mono ?_
  rintro e w5 ⟨v5, rfl, hown5, hb5⟩
  obtain ⟨p5, c5, rfl, hc5, hm5, -, hr5, -⟩ := hown5.form
  have hb5' := hb4'.trans (hb5.mono hb4'.size)
  have hb5w := hb2.trans (hb5'.mono hs2)
  have hr4 := hr4.keep hb5
  have HC := Lib.hid (HCHK.out w5 p1 c1 (hr1.keep hb5') (HYW.out w5 hb5w))
  clear HB HCHK hown5 hb5 hb4' hb4w
  go_wp2_with fail
  refine HC.out.mono ?_
  rintro e w6 ⟨rfl, hb6⟩
  have hb6' := hb5'.trans (hb6.mono hb5'.size)
  have hb6w := hb2.trans (hb6'.mono hs2)
  have hs6 := hb6w.size
  have hr4 := hr4.keep hb6
  have hr5 := hr5.keep hb6
  clear HC hb6 hb5' hb5w
  by_cases hE0 : E = 0
  · have HRD := Lib.hid (HREAD.out hE0)
    have HPS := Lib.hid (HPARSE.out hE0)
    have HRNZ := Lib.hid (HRN.out hE0 Z HZ.out w6 p2 c2 (hr2.keep hb6') (HZW.out w6 hb6'))
    clear HREAD HPARSE HRN HRe
    subst hE0
    go_wp2_with fail
    refine HRNZ.out.mono ?_
    rintro e w7 ⟨v7, rfl, hown7, hb7⟩
    obtain ⟨p7, c7, rfl, -, -, -, hr7, -⟩ := hown7.form
    have hb7' := hb6'.trans (hb7.mono hb6'.size)
    have hb7w := hb2.trans (hb7'.mono hs2)
    have hr4 := hr4.keep hb7
    have hr5 := hr5.keep hb7
    clear HRNZ hown7 hb7 hb6' hb6w hs6
    go_wp2
    have hs7 := hb7w.size
    go_loopw [11, 13] (fun o i wr => ∃ k : Nat, k ≤ R.length ∧ i = .int .i64 k ∧ wr.ownsRow w7.heap.size 5 1 o (vbs (R.take k)).length ((vbs (R.take k)).map (Value.int .u8)) ∧ Below w7.heap.size w7 wr) (fun _ i _ => R.length - (intOf i).toNat)
    case atStart => exact ⟨0, Nat.zero_le _, rfl, World.ownsRow_nil _ _ _ _, Below.refl _ _⟩
    case round =>
      obtain ⟨k, hk, rfl, hown, hbl⟩ := hrel
      have hs8 := hbl.size
      by_cases hlt : k < R.length
      · obtain ⟨b7, off7, rfl, c0, _⟩ := (hr7.keep hbl).at (i := k) (v := .int .u64 R[k]) (by simp [hlt])
        have hx := HRB.out R[k] (by simp)
        have hA : (vbs (R.take k)).length ≤ 10 * k := by
          have := vbs_len (R.take k) (fun x hx => (HRB.out x (List.mem_of_mem_take hx)).2)
          simp at this; omega
        have HT : Hid (vbs (R.take (k + 1)) = vbs (R.take k) ++ vb R[k]) := by rw [List.take_succ_eq_append_getElem hlt, vbs_snoc]; exact Lib.hid rfl
        have hlb := vb_len10 R[k] hx.2
        have hrb := rbytes_any (R[k]).toNat R[k] (Nat.le_refl _) hx.1 hx.2 wr
        have HRBY := Lib.hid hrb
        generalize R[k] = n at *
        clear hrb hx
        generalize vbs (R.take k) = V at *
        generalize vb n = U at *
        go_wp2_with fail
        refine HRBY.out.mono ?_
        rintro e w8 ⟨v8, rfl, hown8, hb8⟩
        obtain ⟨p8, c8, rfl, -, -, hz8, hr8, -⟩ := hown8.form
        have hown' := hown.below hb8
        have hbl8 := hbl.trans (hb8.mono hs8)
        clear HRBY hown8 hb8 hown c0
        go_wp2_with (at_builtin; go_must (refine wpList_app' w7 hbl8 rfl (.tmp 74) (.tmp 79) 38 rfl 5 (.int .u8 0) 1 1 Try.underlying38 Try.infoU8 rfl (by decide) u11 V.length (V.map (Value.int .u8)) rfl hown' p8 U.length c8 (U.map (Value.int .u8)) rfl hz8 hr8 (by simp) (ints_one .u8 _) (by omega) (by decide) ?_); intro v9 w9 hown9 _ hb9)
        go_roundw
        case rel =>
          refine ⟨k + 1, by omega, by go_num, ?_, hb9⟩
          rw [HT.out, List.length_append, List.map_append]
          exact hown9
        case measure => simp [intOf]; omega
      · obtain rfl : k = R.length := by omega
        rw [List.take_length] at hown
        obtain ⟨p9, c9, rfl, -, -, -, hr9, -⟩ := hown.form
        have hb9' := hb7'.trans (hbl.mono hb7'.size)
        have hb9w := hb2.trans (hb9'.mono hs2)
        have hr4' := hr4.keep hbl
        have hr5' := hr5.keep hbl
        have hr7' := hr7.keep hbl
        have HRD2 := Lib.hid (HRD.out p4 c4 hc4 wr hr4')
        clear HRD hown hr4 hr5 hr7 hbl hb7' hb7w hs7 hs8
        go_wp2_with fail
        refine HRD2.out.mono ?_
        rintro e w10 ⟨v10, vals10, rfl, hown10, hin10, hb10⟩
        obtain ⟨p10, c10, rfl, -, -, -, hr10, -⟩ := hown10.form
        obtain ⟨Z10, rfl, hZ10, hZo10⟩ := hin10.rows
        have hb10' := hb9'.trans (hb10.mono hb9'.size)
        have hr4 := hr4'.keep hb10
        have hr5 := hr5'.keep hb10
        have hr7 := hr7'.keep hb10
        have hr9 := hr9.keep hb10
        have HPS2 := Lib.hid (HPS.out p5 c5 hc5 hm5 w10 hr5)
        have HZ10 := Lib.hid hZ10
        clear HRD2 HPS hown10 hin10 hb10 hr4' hr5' hr7' hb9' hb9w hZ10
        go_wp2_with fail
        refine HPS2.out.mono ?_
        rintro e w11 ⟨v11, vals11, rfl, hown11, hin11, hb11⟩
        obtain ⟨p11, c11, rfl, -, -, -, hr11, -⟩ := hown11.form
        obtain ⟨Z11, rfl, hZ11, hZo11⟩ := hin11.rows
        have hb11' := hb10'.trans (hb11.mono hb10'.size)
        have hr4 := hr4.keep hb11
        have hr5 := hr5.keep hb11
        have hr7 := hr7.keep hb11
        have hr9 := hr9.keep hb11
        have hr10 := hr10.keep hb11
        have hZo10' : ∀ x ∈ Z10, x.Ok w11 := fun x hx => (hZo10 x hx).keep hb11
        have HZ11 := Lib.hid hZ11
        have hb11w := hb2.trans (hb11'.mono hs2)
        clear HPS2 hown11 hin11 hb11 hb10' hZ11 hZo10
        go_wp2_with fail
        refine (gknown_any _).mono ?_
        rintro e w12 ⟨rfl, hb12⟩
        have hb12' := hb11'.trans (hb12.mono hb11'.size)
        have hr4 := hr4.keep hb12
        have hr5 := hr5.keep hb12
        have hr7 := hr7.keep hb12
        have hr9 := hr9.keep hb12
        have hr10 := hr10.keep hb12
        have hr11 := hr11.keep hb12
        have hZo10 : ∀ x ∈ Z10, x.Ok w12 := fun x hx => (hZo10' x hx).keep hb12
        have hZo11' : ∀ x ∈ Z11, x.Ok w12 := fun x hx => (hZo11 x hx).keep hb12
        clear hb11' hb11w hb12 hZo10' hZo11
        go_wp2_with fail
        refine (gsame_any p4 p7 c4 c7 R R (by omega) (by omega) _ hr4 hr7).mono ?_
        rintro e w13 ⟨rfl, nq1, rfl⟩
        rw [decide_eq_true rfl]
        have hb13 := below_drewN hb12' nq1
        go_wp2_with fail
        refine (rsame_any p5 p9 c5 c9 (vbs R) (vbs R) (by omega) (by omega) _ (hr5.drewN nq1) (hr9.drewN nq1)).mono ?_
        rintro e w13 ⟨rfl, nq2, rfl⟩
        rw [decide_eq_true rfl]
        have hb14 := below_drewN hb13 nq2
        have hr10 := (hr10.drewN nq1).drewN nq2
        have hr11 := (hr11.drewN nq1).drewN nq2
        have hr2' := hr2.keep hb14
        have hZo10 : ∀ x ∈ Z10, x.Ok ((w12.drewN nq1).drewN nq2) := hZo10
        have hZo11 : ∀ x ∈ Z11, x.Ok ((w12.drewN nq1).drewN nq2) := hZo11'
        have hZo2 := HZW.out _ hb14
        generalize (w12.drewN nq1).drewN nq2 = w14 at *
        have HS1 := Lib.hid (HSAME.out Z10 Z HZ10.out HZ.out w14 p10 p2 c10 c2 hr10 hr2' hZo10 hZo2)
        go_wp2_with fail
        refine HS1.out.mono ?_
        rintro e w15 ⟨rfl, hb15⟩
        have hb15' := hb14.trans (hb15.mono hb14.size)
        have HS2 := Lib.hid (HSAME.out Z11 Z HZ11.out HZ.out w15 p11 p2 c11 c2 (hr11.keep hb15) (hr2'.keep hb15) (fun x hx => (hZo11 x hx).keep hb15) (HZW.out _ hb15'))
        clear HS1
        go_wp2_with fail
        refine HS2.out.mono ?_
        rintro e w16 ⟨rfl, hb16⟩
        have hb16' := hb15'.trans (hb16.mono hb15'.size)
        go_wp2
        go_ret
        exact ⟨rfl, hb2.trans (hb16'.mono hs2)⟩
  · have hR0 := HRe.out hE0
    have hEn : (E != 0) = true := by simpa using hE0
    subst hR0
    clear HREAD HPARSE HRN hE0
    go_wp2_with fail
    refine (gknown_any _).mono ?_
    rintro e w7 ⟨rfl, hb7⟩
    have hb7w := hb6w.trans (hb7.mono hs6)
    go_wp2
    go_ret
    exact ⟨rfl, hb7w⟩
end Go.Proofs.Ytephdnahmgfmeaa
