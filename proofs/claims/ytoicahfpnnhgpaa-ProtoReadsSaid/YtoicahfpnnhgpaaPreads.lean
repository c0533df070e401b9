/-
  ProtoReads: the walk.
-/
import Derived.Test.YtoicahfpnnhgpaaPknown
import Derived.Test.YtoicahfpnnhgpaaPall8
import Derived.Test.YtoicahfpnnhgpaaPrefall
import Derived.Test.YtoicahfpnnhgpaaOpen
namespace Go.Proto
theorem pallF_nil : ∀ (f : Nat) (b : List Int) (p : Nat) (acc : List Fld), (pallF f b p acc).2.2 ≠ 0 → (pallF f b p acc).1 = [] := by
  intro f
  induction f with
  | zero => intro b p acc h; exact absurd rfl h
  | succ f ih =>
    intro b p acc h
    by_cases hp : p < b.length
    · by_cases he : (prd (b.drop p)).2.2 = 0
      · rw [pallF_step f b p acc hp he] at h ⊢
        exact ih _ _ _ h
      · rw [pallF_err f b p acc hp he]
    · rw [pallF_end f b p acc hp] at h
      exact absurd rfl h
end Go.Proto
namespace Go.Proofs.Ytoicahfpnnhgpaa
open Go.RowKit Go.Vint Go.Proto

set_option maxHeartbeats 4000000 in
theorem preads_walk {w : World} (a : Option Addr) (c0 : Nat) (A : List Int) (hn0 : A.length ≤ c0) (hc0 : c0 ≤ maxLen) (_hca : a = none → c0 = 0) (hra : Rd w a (A.map (Value.int .u8))) (hwA : ∀ n ∈ A, (Lit.int .u8 n).wf = true) :
    Calls Try.prog 3 #[.slice a A.length c0] w fun e w' => e = .returned (.bool true) ∧ Below w.heap.size w w' := by
  have hbA : ∀ x ∈ A, 0 ≤ x ∧ x ≤ 255 := fun x hx => bd_u8 (hwA x hx)
  clear hwA
  obtain ⟨n0, hA⟩ : ∃ n0, A.length = n0 := ⟨_, rfl⟩
  rw [hA] at hn0 ⊢
  have hc0' := hc0
  unfold maxLen at hc0
  go_enter Try.func3, Try.ntmps3
  obtain ⟨z0, hz0⟩ : ∃ z : Int, (if (300 : Int) < (n0 : Int) then (300 : Int) else (n0 : Int)) = z := ⟨_, rfl⟩
  obtain ⟨L, hL⟩ : ∃ L, L = A.take 300 := ⟨_, rfl⟩
  have e0 : z0.toNat = L.length := by rw [hL, List.length_take, hA, ← hz0]; split <;> omega
  have hz1 : 0 ≤ z0 ∧ z0 ≤ c0 := by rw [← hz0]; split <;> omega
  have hr : Rd w a (L.map (Value.int .u8)) := by rw [hL, List.map_take]; exact hra.take 300
  have hL2 : L.length ≤ 300 := by rw [hL, List.length_take]; omega
  have hLc : L.length ≤ c0 := by omega
  have hb : ∀ x ∈ L, 0 ≤ x ∧ x ≤ 255 := by rw [hL]; exact fun x hx => hbA x (List.mem_of_mem_take hx)
  clear hL hA hra hbA
  go_wp2_with fail
  clear hz0 e0 hz1
  have h1 := fun W h => pread_any a c0 L hb (by omega) hLc hc0' W h
  have h2 := fun W h => prefread_any a c0 L hb (by omega) hLc hc0' W h
  have h3 := fun W h => pskip_any a c0 L hb (by omega) hLc hc0' W h
  generalize prd L = r at *
  obtain ⟨fl, n, er⟩ := r
  refine (h1 _ hr).mono ?_
  rintro e w1 ⟨⟨a1, c1, rfl, hr1, q1, q2, q3, -⟩, hb1⟩
  have hx1 : FC.Ok w1 ⟨fl, a1, c1⟩ := ⟨hr1, q1, q2, q3⟩
  have HX1 := Lib.hid hx1
  try dsimp only at *
  clear h1 hx1 hr1 q1 q2 q3
  go_wp2_with fail
  have hX2 := BlkT.new w1 [.int .i64 fl.num, .int .i64 fl.kind, .int .u64 fl.n, .slice a1 fl.bs.length c1] 25
  have hs1 := hb1.size
  have hb2 := hb1.alloc hs1 (.cells #[.int .i64 fl.num, .int .i64 fl.kind, .int .u64 fl.n, .slice a1 fl.bs.length c1] 25)
  refine (h2 _ (hr.keep hb2)).mono ?_
  rintro e w3 ⟨he, hb3⟩
  simp only [RFldE, RFldV] at he
  subst he
  go_wp2_with fail
  have hX3 := hX2.keep hb3
  have hX4 := hX3.keep (Below.new w3 (.cells #[.int .i64 fl.num, .int .i64 fl.kind, .int .u64 fl.n, .string (strOfNums fl.bs)] 30))
  have hY4 := BlkT.new w3 [.int .i64 fl.num, .int .i64 fl.kind, .int .u64 fl.n, .string (strOfNums fl.bs)] 30
  have hb4 := hb2.trans (hb3.mono (by have := hb2.size; omega))
  have hs4 := hb4.size
  have hb5 := hb4.alloc hs4 (.cells #[.int .i64 fl.num, .int .i64 fl.kind, .int .u64 fl.n, .string (strOfNums fl.bs)] 30)
  have hbx : Below w1.heap.size w1 w3 := (Below.new w1 _).trans (hb3.mono (by simp))
  have hx3 := (HX1.out.keep hbx).keep (Below.new w3 (.cells #[.int .i64 fl.num, .int .i64 fl.kind, .int .u64 fl.n, .string (strOfNums fl.bs)] 30))
  refine (h3 _ (hr.keep hb5)).mono ?_
  rintro e w5 ⟨rfl, hb6⟩
  have hX5 := hX4.keep hb6
  have hY5 := hY4.keep hb6
  have hx5 := hx3.keep hb6
  have hb7 := hb5.trans (hb6.mono (by have := hb5.size; omega))
  have hs7 := hb7.size
  have hneq : (n != n) = false := by simp
  have hneq2 : (er != er) = false := by simp
  clear h2 h3 hb1 hb2 hb3 hb4 hb5 hb6 hs1 hs4 hX2 hX3 hX4 hY4 hx3 HX1 hbx
  go_wp2_with fail
  have HXX := Lib.hid (fun W (h : Below w5.heap.size w5 W) => hX5.keep h)
  have HYY := Lib.hid (fun W (h : Below w5.heap.size w5 W) => hY5.keep h)
  refine wp_region_lit_txt [0, 2, 3, 4, 5, 6, 7, 8, 9, 10, 11, 12, 13, 14, 15, 16, 17, 18, 19, 20, 21, 22, 23] (Below w5.heap.size w5) (by kernel_rfl) (by kernel_rfl) (by kernel_rfl) ((Below.refl _ _).drew) ?_
  refine txt_light ?_ rfl rfl ?_ ?_
  rotate_left
  · intro w' hS
    have c0 := (HXX.out w' hS).cell 0 rfl
    have c1 := (HXX.out w' hS).cell 1 rfl
    have c2 := (HXX.out w' hS).cell 2 rfl
    have c3 := (HXX.out w' hS).cell 3 rfl
    go_simp
    with_reducible rfl
  try simp only [Act.put, List.setIfInBounds_toArray, List.set_cons_zero, List.set_cons_succ]
  refine txt_call [.agg #[.int .i64 fl.num, .int .i64 fl.kind, .int .u64 fl.n, .slice a1 fl.bs.length c1]] Try.f10 rfl rfl Try.func10 (by kernel_rfl) (by kernel_rfl) rfl ((of_any ⟨fl, a1, c1⟩ _ (hx5.keep (Below.refl _ _).drew)).mono ?_)
  rintro e w6 ⟨rfl, hb8⟩
  have hb9 : Below w5.heap.size w5 w6 := (Below.refl _ _).drew.trans (hb8.mono (Nat.le_refl _))
  clear hb8
  refine ⟨_, rfl, hb9, ?_⟩
  try simp only [Act.put, List.setIfInBounds_toArray, List.set_cons_zero, List.set_cons_succ, rcells]
  refine txt_light ?_ rfl rfl ?_ ?_
  rotate_left
  · intro w' hS
    have c0 := (HYY.out w' hS).cell 0 rfl
    have c1 := (HYY.out w' hS).cell 1 rfl
    have c2 := (HYY.out w' hS).cell 2 rfl
    have c3 := (HYY.out w' hS).cell 3 rfl
    go_simp
    with_reducible rfl
  try simp only [Act.put, List.setIfInBounds_toArray, List.set_cons_zero, List.set_cons_succ]
  (refine txt_light ?_ rfl rfl ?_ ?_; rotate_left; · (intro w' hS; (try dsimp only at hS); go_simp; with_reducible rfl)); try simp only [Act.put, List.setIfInBounds_toArray, List.set_cons_zero, List.set_cons_succ]
  (refine txt_light ?_ rfl rfl ?_ ?_; rotate_left; · (intro w' hS; (try dsimp only at hS); go_simp; with_reducible rfl)); try simp only [Act.put, List.setIfInBounds_toArray, List.set_cons_zero, List.set_cons_succ]
  (refine txt_light ?_ rfl rfl ?_ ?_; rotate_left; · (intro w' hS; (try dsimp only at hS); go_simp; with_reducible rfl)); try simp only [Act.put, List.setIfInBounds_toArray, List.set_cons_zero, List.set_cons_succ]
  (refine txt_light ?_ rfl rfl ?_ ?_; rotate_left; · (intro w' hS; (try dsimp only at hS); go_simp; with_reducible rfl)); try simp only [Act.put, List.setIfInBounds_toArray, List.set_cons_zero, List.set_cons_succ]
  (refine txt_light ?_ rfl rfl ?_ ?_; rotate_left; · (intro w' hS; (try dsimp only at hS); go_simp; with_reducible rfl)); try simp only [Act.put, List.setIfInBounds_toArray, List.set_cons_zero, List.set_cons_succ]
  (refine txt_light ?_ rfl rfl ?_ ?_; rotate_left; · (intro w' hS; (try dsimp only at hS); go_simp; with_reducible rfl)); try simp only [Act.put, List.setIfInBounds_toArray, List.set_cons_zero, List.set_cons_succ]
  (refine txt_light ?_ rfl rfl ?_ ?_; rotate_left; · (intro w' hS; (try dsimp only at hS); go_simp; with_reducible rfl)); try simp only [Act.put, List.setIfInBounds_toArray, List.set_cons_zero, List.set_cons_succ]
  (refine txt_light ?_ rfl rfl ?_ ?_; rotate_left; · (intro w' hS; (try dsimp only at hS); go_simp; with_reducible rfl)); try simp only [Act.put, List.setIfInBounds_toArray, List.set_cons_zero, List.set_cons_succ]
  (refine txt_light ?_ rfl rfl ?_ ?_; rotate_left; · (intro w' hS; (try dsimp only at hS); go_simp; with_reducible rfl)); try simp only [Act.put, List.setIfInBounds_toArray, List.set_cons_zero, List.set_cons_succ]
  (refine txt_light ?_ rfl rfl ?_ ?_; rotate_left; · (intro w' hS; (try dsimp only at hS); go_simp; with_reducible rfl)); try simp only [Act.put, List.setIfInBounds_toArray, List.set_cons_zero, List.set_cons_succ]
  (refine txt_light ?_ rfl rfl ?_ ?_; rotate_left; · (intro w' hS; (try dsimp only at hS); go_simp; with_reducible rfl)); try simp only [Act.put, List.setIfInBounds_toArray, List.set_cons_zero, List.set_cons_succ]
  (refine txt_light ?_ rfl rfl ?_ ?_; rotate_left; · (intro w' hS; (try dsimp only at hS); go_simp; with_reducible rfl)); try simp only [Act.put, List.setIfInBounds_toArray, List.set_cons_zero, List.set_cons_succ]
  (refine txt_light ?_ rfl rfl ?_ ?_; rotate_left; · (intro w' hS; (try dsimp only at hS); go_simp; with_reducible rfl)); try simp only [Act.put, List.setIfInBounds_toArray, List.set_cons_zero, List.set_cons_succ]
  (refine txt_light ?_ rfl rfl ?_ ?_; rotate_left; · (intro w' hS; (try dsimp only at hS); go_simp; with_reducible rfl)); try simp only [Act.put, List.setIfInBounds_toArray, List.set_cons_zero, List.set_cons_succ]
  (refine txt_light ?_ rfl rfl ?_ ?_; rotate_left; · (intro w' hS; (try dsimp only at hS); go_simp; with_reducible rfl)); try simp only [Act.put, List.setIfInBounds_toArray, List.set_cons_zero, List.set_cons_succ]
  (refine txt_light ?_ rfl rfl ?_ ?_; rotate_left; · (intro w' hS; (try dsimp only at hS); go_simp; with_reducible rfl)); try simp only [Act.put, List.setIfInBounds_toArray, List.set_cons_zero, List.set_cons_succ]
  (refine txt_light ?_ rfl rfl ?_ ?_; rotate_left; · (intro w' hS; (try dsimp only at hS); go_simp; with_reducible rfl)); try simp only [Act.put, List.setIfInBounds_toArray, List.set_cons_zero, List.set_cons_succ]
  (refine txt_light ?_ rfl rfl ?_ ?_; rotate_left; · (intro w' hS; (try dsimp only at hS); go_simp; with_reducible rfl)); try simp only [Act.put, List.setIfInBounds_toArray, List.set_cons_zero, List.set_cons_succ]
  (refine txt_light ?_ rfl rfl ?_ ?_; rotate_left; · (intro w' hS; (try dsimp only at hS); go_simp; with_reducible rfl)); try simp only [Act.put, List.setIfInBounds_toArray, List.set_cons_zero, List.set_cons_succ]
  (refine txt_light ?_ rfl rfl ?_ ?_; rotate_left; · (intro w' hS; (try dsimp only at hS); go_simp; with_reducible rfl)); try simp only [Act.put, List.setIfInBounds_toArray, List.set_cons_zero, List.set_cons_succ]
  (refine txt_light ?_ rfl rfl ?_ ?_; rotate_left; · (intro w' hS; (try dsimp only at hS); go_simp; with_reducible rfl)); try simp only [Act.put, List.setIfInBounds_toArray, List.set_cons_zero, List.set_cons_succ]
  refine txt_nil ?_
  have hb10 := hb7.trans (hb9.mono hs7)
  have hs10 := hb10.size
  clear hb9 hb7 HXX HYY hX5 hY5 hx5
  have h1 := fun W h => protoAll_any a c0 L hb (by omega) hLc hc0' W h
  have h2 := fun W h => prefall_any a c0 L hb (by omega) hLc hc0' W h
  have hpok := pall_ok L hb
  have hpn : (pall L).2.2 ≠ 0 → (pall L).1 = [] := pallF_nil _ _ _ _
  generalize pall L = pl at *
  obtain ⟨fs, pp, pe⟩ := pl
  have HPO := Lib.hid hpok
  have HPN := Lib.hid hpn
  clear hpok hpn
  go_wp2_with fail
  refine (h1 _ (hr.keep hb10)).mono ?_
  rintro e w7 ⟨v7, rfl, xs, hxs, hown7, hok7, hb11⟩
  try dsimp only at hxs
  obtain ⟨a7, c7, rfl, h70, h71, h72, hr7, -⟩ := hown7.form
  have hb12 := hb10.trans (hb11.mono hs10)
  have hs12 := hb12.size
  have hfb : ∀ f ∈ fs, Byt f := by
    intro f hf
    by_cases h : pe = 0
    · exact ((HPO.out h).2.1 f hf).2.2.2.1
    · rw [HPN.out h] at hf; simp at hf
  have hfl : pe = 0 → fs.length ≤ 300 := fun h => Nat.le_trans (HPO.out h).2.2.2 hL2
  have hfl2 : fs.length ≤ 300 := by
    by_cases h : pe = 0
    · exact hfl h
    · rw [HPN.out h]; simp
  have hxl : xs.length ≤ 300 := by have : xs.length = fs.length := by rw [← hxs]; simp
                                   omega
  have HXS := Lib.hid hxs
  have HFB := Lib.hid hfb
  clear h1 hxs hfb hfl hown7 hb11 hb10 hs10
  go_wp2_with fail
  refine (h2 _ (hr.keep hb12)).mono ?_
  rintro e w8 ⟨v8, rfl, hown8, hb13⟩
  try dsimp only at hown8
  obtain ⟨a8, c8, rfl, -, -, h82, hr8, -⟩ := hown8.form
  have hb14 := hb12.trans (hb13.mono hs12)
  have hr78 := hr7.keep hb13
  have hok8 : ∀ x ∈ xs, x.Ok w8 := fun x hx => (hok7 x hx).keep hb13
  have hs14 := hb14.size
  clear h2 hok7 hr7 hown8 hb13 hb12 hs12
  go_wp2_with fail
  have hsm := psame_any a7 a8 c7 c8 xs fs (fun x hx => HFB.out x.f (by rw [← HXS.out]; exact List.mem_map_of_mem hx)) HFB.out (by omega) (by omega) w8 hr78 hr8 hok8
  rw [show decide (xs.map (·.f) = fs) = true from decide_eq_true HXS.out] at hsm
  refine hsm.mono ?_
  rintro e w9 ⟨rfl, hb15⟩
  have hr79 := hr78.keep hb15
  have hok9 : ∀ x ∈ xs, x.Ok w9 := fun x hx => (hok8 x hx).keep hb15
  have hb16 := hb14.trans (hb15.mono hs14)
  have hs16 := hb16.size
  have hneq : (pp != pp) = false := by simp
  have hneq2 : (pe != pe) = false := by simp
  clear hsm hr78 hr8 hok8 hb15 hb14 hs14
  by_cases he : pe = 0
  · obtain ⟨k1, k2, k3, k4⟩ := HPO.out he
    subst he
    try dsimp only at k1 k2 k3 k4
    have hpw := pwr_ok fs (fun f hf => (k2 f hf).1)
    rw [k1, ← HXS.out] at hpw
    have HPW := Lib.hid hpw
    have HK2 := Lib.hid k2
    clear hpw k1 k2 HPO HPN
    go_wp2_with fail
    have hpr := pwrite_any a7 c7 xs (fun x hx => by
      have hm : x.f ∈ fs := by rw [← HXS.out]; exact List.mem_map_of_mem hx
      obtain ⟨-, q0, q1, q2, q3⟩ := HK2.out x.f hm
      exact ⟨q2, q0, q1, by omega⟩) (by omega) w9 hr79 hok9
    rw [HPW.out] at hpr
    refine hpr.mono ?_
    rintro e w10 ⟨v10, rfl, hown10, hb17⟩
    try dsimp only at hown10
    obtain ⟨a10, c10, rfl, -, -, -, hr10, -⟩ := hown10.form
    have hb18 := hb16.trans (hb17.mono hs16)
    have hs18 := hb18.size
    clear hpr hown10 hb17 hr79 hok9 hb16 hs16
    go_wp2_with fail
    refine (pknown_any _).mono ?_
    rintro e w11 ⟨rfl, hb19⟩
    have hb20 := hb18.trans (hb19.mono hs18)
    have hr11 := hr10.keep hb19
    clear hb19 hr10 hb18 hs18
    go_wp2_with fail
    refine (rsame_any a a10 c0 c10 L L (by omega) (by omega) _ (hr.keep hb20) hr11).mono ?_
    rintro e w12 ⟨rfl, n12, rfl⟩
    simp only [decide_true]
    have hb21 := below_drewN hb20 n12
    clear hr11 hb20
    go_wp2
    go_ret
    exact ⟨rfl, hb21⟩
  · have hne : (pe != 0) = true := by simpa using he
    go_wp2_with fail
    refine (pknown_any _).mono ?_
    rintro e w10 ⟨rfl, hb17⟩
    go_wp2
    go_ret
    exact ⟨rfl, hb16.trans (hb17.mono hs16)⟩
end Go.Proofs.Ytoicahfpnnhgpaa
