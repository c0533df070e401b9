/-
  proto.Write.
-/
import Derived.Test.YtoicahfpnnhgpaaPlow
import Derived.Test.YtoicahfpnnhgpaaPsame
import Derived.Test.YtoicahfpnnhgpaaVbytes
import Derived.Test.YtoicahfpnnhgpaaInfo
import Derived.Test.YtoicahfpnnhgpaaRegApp
set_option linter.unusedVariables false
set_option linter.unusedSimpArgs false
namespace Go.Proto
open Go.Vint

/-- The bytes of fields behind what has come; the error of the first that has one. -/
def pwrF : List Int → List Fld → List Int × Int
  | acc, [] => (acc, 0)
  | acc, f :: l => if chk f = 0 then pwrF (acc ++ fby f) l else ([], chk f)
def pwr (l : List Fld) : List Int × Int := pwrF [] l

theorem pwrF_ok : ∀ (l : List Fld) (acc : List Int), (∀ f ∈ l, chk f = 0) → pwrF acc l = (acc ++ l.flatMap fby, 0) := by
  intro l
  induction l with
  | nil => intro acc _; simp [pwrF]
  | cons f l ih =>
    intro acc h
    rw [pwrF, if_pos (h f (by simp)), ih _ (fun g hg => h g (by simp [hg]))]
    simp
theorem pwr_ok (l : List Fld) (h : ∀ f ∈ l, chk f = 0) : pwr l = (l.flatMap fby, 0) := by
  rw [pwr, pwrF_ok l [] h]; simp

theorem pwrF_step (acc : List Int) (l : List Fld) (k : Nat) (h : k < l.length) (hc : chk l[k] = 0) : pwrF acc (l.drop k) = pwrF (acc ++ fby l[k]) (l.drop (k + 1)) := by
  rw [List.drop_eq_getElem_cons h, pwrF, if_pos hc]
theorem pwrF_err (acc : List Int) (l : List Fld) (k : Nat) (h : k < l.length) (hc : chk l[k] ≠ 0) : pwrF acc (l.drop k) = ([], chk l[k]) := by
  rw [List.drop_eq_getElem_cons h, pwrF, if_neg hc]

theorem fby_len (f : Fld) (h : chk f = 0) (h0 : 0 ≤ f.n) (h1 : f.n ≤ 18446744073709551615) (hb : f.bs.length ≤ 1000000) : (fby f).length ≤ f.bs.length + 20 := by
  have hnum : 1 ≤ f.num ∧ f.num ≤ 536870911 := by unfold chk at h; split at h <;> omega
  have hk : f.kind = 0 ∨ f.kind = 1 ∨ f.kind = 2 ∨ f.kind = 5 := by
    unfold chk at h
    split at h
    · omega
    · split at h
      · omega
      · omega
  unfold fby tail
  rw [List.length_append]
  have := vb_len10 (8 * f.num + f.kind) (by omega)
  have h2 := vb_len10 f.n h1
  have h3 := vb_len10 (f.bs.length : Int) (by omega)
  split
  · omega
  · split
    · rw [low_len]; omega
    · split
      · rw [low_len]; omega
      · rw [List.length_append]; omega
end Go.Proto
namespace Go
theorem u64_key (num kind : Int) (h0 : 0 ≤ num) (h1 : num ≤ 536870911) (h2 : 0 ≤ kind) (h3 : kind < 8) : bits BinOp.or IntKind.u64 (num * 8) kind = 8 * num + kind := by
  rw [u64_or_hi 3 (num * 8) kind (by omega) (by omega) (by omega) (by omega) h2 (by omega)]
  omega
end Go
namespace Go.Proofs.Ytoicahfpnnhgpaa
open Go.RowKit Go.Vint Go.Proto

set_option maxHeartbeats 4000000 in
theorem pwrite_any (a : Option Addr) (c : Nat) (xs : List FC) (hx : ∀ x ∈ xs, Byt x.f ∧ 0 ≤ x.f.n ∧ x.f.n ≤ 18446744073709551615 ∧ x.f.bs.length ≤ 1000000) (hl : xs.length ≤ 1000000) (w : World)
    (hr : Rd w a (flat xs)) (hok : ∀ x ∈ xs, x.Ok w) :
    Calls Try.prog 15 #[.slice a xs.length c] w fun e w' => ∃ v, e = .returned (.tuple #[v, .int .i64 (pwr (xs.map (·.f))).2]) ∧
      w'.ownsRow w.heap.size 5 1 v (pwr (xs.map (·.f))).1.length ((pwr (xs.map (·.f))).1.map (Value.int .u8)) ∧ Below w.heap.size w w' := by
  go_enter Try.func15, Try.ntmps15
  go_wp2
  go_loopw [4, 10] (fun o i wr => ∃ (k : Nat) (A : List Int), k ≤ xs.length ∧ i = .int .i64 k ∧ A.length ≤ 1000020 * k ∧ pwr (xs.map (·.f)) = pwrF A ((xs.map (·.f)).drop k) ∧ wr.ownsRow w.heap.size 5 1 o A.length (A.map (Value.int .u8)) ∧ Below w.heap.size w wr) (fun _ i _ => xs.length - (intOf i).toNat)
  case atStart => exact ⟨0, [], Nat.zero_le _, rfl, by simp, rfl, World.ownsRow_nil _ _ _ _, Below.refl _ _⟩
  case round =>
    obtain ⟨k, A, hk, rfl, hA, hP, hown, hbl⟩ := hrel
    have HP := Lib.hid hP
    clear hP
    by_cases hlt : k < xs.length
    · obtain ⟨x, hxk⟩ : ∃ x, xs[k] = x := ⟨_, rfl⟩
      have h0 := fun j hj => flat_get xs k j hlt hj
      rw [hxk] at h0
      have hxm : x ∈ xs := by rw [← hxk]; exact List.getElem_mem _
      have hxo : x.Ok w := hok x hxm
      obtain ⟨hxb, hn0, hn1, hbsl⟩ := hx x hxm
      obtain ⟨b1, off1, rfl, -, _⟩ := hr.at (i := k * 4 + 0) (h0 0 (by omega))
      have HC1 : ∀ W, Below w.heap.size w W → ∀ j v, j < 4 → x.cells[j]? = some v → W.cell? ⟨b1, off1 + k * 4 + j, none⟩ = some v := by
        intro W hW j v hj hv
        obtain ⟨b', o', e, hc, -⟩ := (hr.keep hW).at (i := k * 4 + j) (v := v) (by rw [h0 j hj, hv])
        cases e
        rw [Nat.add_assoc]; exact hc
      have hmk : (xs.map (·.f))[k]'(by simpa using hlt) = x.f := by rw [List.getElem_map, hxk]
      have HST := pwrF_step A (xs.map (·.f)) k (by simpa using hlt)
      have HER := pwrF_err A (xs.map (·.f)) k (by simpa using hlt)
      rw [hmk] at HST HER
      replace HST := Lib.hid HST
      replace HER := Lib.hid HER
      have hfl := fun h => fby_len x.f h hn0 hn1 hbsl
      have HFL := Lib.hid hfl
      have hck := fun W => pcheck_any x W ⟨hn0, hn1⟩
      have HCK := Lib.hid hck
      have HXO := Lib.hid hxo
      have c0 := HC1 wr hbl 0 _ (by omega) rfl
      have c1 := HC1 wr hbl 1 _ (by omega) rfl
      have c2 := HC1 wr hbl 2 _ (by omega) rfl
      have c3 := HC1 wr hbl 3 _ (by omega) rfl
      clear h0 hr hok hxk hxm hx hxo hmk hfl hck HC1
      obtain ⟨⟨num, kind, n, bs⟩, p, cx⟩ := x
      dsimp only [FC.val] at *
      rw [Nat.add_zero] at c0
      obtain ⟨ck, hcke⟩ : ∃ ck, chk ⟨num, kind, n, bs⟩ = ck := ⟨_, rfl⟩
      have hkin : ck = 0 → 1 ≤ num ∧ num ≤ 536870911 ∧ (kind = 0 ∨ kind = 1 ∨ kind = 2 ∨ kind = 5) := by
        intro h
        rw [h] at hcke
        unfold chk at hcke
        dsimp only at hcke
        split at hcke
        · omega
        · split at hcke
          · omega
          · omega
      rw [hcke] at HST HER HFL HCK
      clear hcke
      by_cases h0 : ck = 0
      · obtain ⟨k0, k1, k2⟩ := hkin h0
        subst h0
        go_wp2_with fail
        refine (HCK.out _).mono ?_
        rintro e w1 ⟨rfl, hb1⟩
        have hX1 : BlkT w1 wr.heap.size 25 [.int .i64 num, .int .i64 kind, .int .u64 n, .slice p bs.length cx] := (BlkT.new wr _ _).keep hb1
        have hbl1 := (hbl.alloc hbl.size _).trans (hb1.mono (by have := hbl.size; simp; omega))
        have hown1 := (hown.below (Below.new _ _)).below hb1
        have hbp : Below wr.heap.size wr w1 := (Below.new wr _).trans (hb1.mono (by simp))
        have hkey := u64_key num kind (by omega) k1 (by omega) (by omega)
        have d0 := hX1.cell 0 rfl
        have d1 := hX1.cell 1 rfl
        have hwX : w.heap.size ≤ wr.heap.size := hbl.size
        have hs1 := hbl1.size
        replace HST := Lib.hid (HST.out trivial)
        replace HFL := Lib.hid (HFL.out trivial)
        clear hkin HER HCK hb1 hown hbl c0 c1 c2 c3
        go_wp2_with fail
        obtain ⟨KB, hKB⟩ : ∃ KB, KB = vb (8 * num + kind) := ⟨_, rfl⟩
        have hKl : KB.length ≤ 10 := by rw [hKB]; exact vb_len10 _ (by omega)
        obtain ⟨TB, hTB⟩ : ∃ TB, TB = tail ⟨num, kind, n, bs⟩ := ⟨_, rfl⟩
        have HF : Hid (pwrF A (List.drop k (List.map (fun x => x.f) xs)) = pwrF (A ++ KB ++ TB) (List.drop (k + 1) (List.map (fun x => x.f) xs))) := by
          refine Lib.hid ?_
          rw [HST.out, List.append_assoc, hKB, hTB]; rfl
        have hTl : KB.length + TB.length ≤ bs.length + 20 := by
          have := HFL.out
          unfold fby at this
          rw [List.length_append, ← hKB, ← hTB] at this
          exact this
        have hvk := vbytes_any (some ⟨w1.heap.size, 0, none⟩) 1 [8 * num + kind] (by intro y hy; obtain rfl := List.mem_singleton.1 hy; omega) (by simp) _ (Rd.lit w1 _ [.int .u64 (8 * num + kind)] 23 rfl)
        rw [show vbs [8 * num + kind] = KB by rw [hKB]; simp [vbs]] at hvk
        have HVK := Lib.hid hvk
        clear hvk HST HFL hkey d0 d1
        refine HVK.out.mono ?_
        rintro e w2 ⟨v2, rfl, hv2, hb2⟩
        obtain ⟨a2, e2, rfl, -, -, ha2, hr2, -⟩ := hv2.form
        have hX2 := (hX1.keep (Below.new w1 (.cells #[.int .u64 (8 * num + kind)] 23))).keep hb2
        have hown2 := (hown1.below (Below.new w1 (.cells #[.int .u64 (8 * num + kind)] 23))).below hb2
        have hbl2 := (hbl1.alloc hs1 (.cells #[.int .u64 (8 * num + kind)] 23)).trans (hb2.mono (by simp; omega))
        have hne2 := hX2.not_row (by decide) hown2
        clear HVK hX1 hown1 hbl1 hbp hb2 hv2
        have TBk := Lib.hid hTB
        clear hKB hTB
        rcases k2 with rfl | rfl | rfl | rfl
        · go_wp2_with (at_builtin; go_must (refine wpList_app' w hbl2 rfl (.tmp 19) (.tmp 29) 22 rfl 5 (.int .u8 0) 1 1 Try.underlying22 Try.infoU8 rfl (by decide) u4 A.length (A.map (Value.int .u8)) rfl hown2 a2 KB.length e2 (KB.map (Value.int .u8)) rfl ha2 hr2 (by simp) (ints_one .u8 _) (by omega) (by decide) ?_); intro v3 w3 hown3 hg3 hbl3; have hX3 := hX2.grown hg3 hne2; have x1 := hX3.cell 1 rfl; have x2 := hX3.cell 2 rfl; have x3 := hX3.cell 3 rfl; clear hX2 hown2 hbl2 hne2 hg3 hr2)
          have hvk := vbytes_any (some ⟨w3.heap.size, 0, none⟩) 1 [n] (by intro y hy; obtain rfl := List.mem_singleton.1 hy; omega) (by simp) _ (Rd.lit w3 _ [.int .u64 n] 23 rfl)
          rw [show vbs [n] = TB by rw [TBk.out]; simp [vbs, tail]] at hvk
          have HVK := Lib.hid hvk
          clear hvk
          refine HVK.out.mono ?_
          rintro e w4 ⟨v4, rfl, hv4, hb4⟩
          obtain ⟨a4, e4, rfl, -, -, ha4, hr4, -⟩ := hv4.form
          have hown4 := (hown3.below (Below.new w3 (.cells #[.int .u64 n] 23))).below hb4
          have hbl4 := (hbl3.alloc hbl3.size (.cells #[.int .u64 n] 23)).trans (hb4.mono (by have := hbl3.size; simp; omega))
          clear HVK hown3 hbl3 hb4 hv4
          go_wp2_with (at_builtin; go_must (refine wpList_app' w hbl4 rfl (.tmp 46) (.tmp 50) 22 rfl 5 (.int .u8 0) 1 1 Try.underlying22 Try.infoU8 rfl (by decide) v3 (A.length + KB.length) (A.map (Value.int .u8) ++ KB.map (Value.int .u8)) rfl hown4 a4 TB.length e4 (TB.map (Value.int .u8)) rfl ha4 hr4 (by simp) (ints_one .u8 _) (by omega) (by decide) ?_); intro v5 w5 hown5 hg5 hbl5; clear hown4 hbl4 hg5 hr4 hX3 x1 x2 x3)
          go_roundw
          case rel =>
            refine ⟨k + 1, A ++ KB ++ TB, by omega, by go_num, by simp only [List.length_append]; omega, HP.out.trans HF.out, ?_, hbl5⟩
            simpa [Nat.add_assoc] using hown5
          case measure => simp [intOf]; omega
        · go_wp2_with (at_builtin; go_must (refine wpList_app' w hbl2 rfl (.tmp 19) (.tmp 29) 22 rfl 5 (.int .u8 0) 1 1 Try.underlying22 Try.infoU8 rfl (by decide) u4 A.length (A.map (Value.int .u8)) rfl hown2 a2 KB.length e2 (KB.map (Value.int .u8)) rfl ha2 hr2 (by simp) (ints_one .u8 _) (by omega) (by decide) ?_); intro v3 w3 hown3 hg3 hbl3; have hX3 := hX2.grown hg3 hne2; have x1 := hX3.cell 1 rfl; have x2 := hX3.cell 2 rfl; have x3 := hX3.cell 3 rfl; clear hX2 hown2 hbl2 hne2 hg3 hr2)
          have hvk := plow_any n 8 (by omega) ⟨hn0, hn1⟩ w3
          rw [show low n 8 = TB by rw [TBk.out]; simp [tail], show (8 : Nat) = TB.length by rw [TBk.out]; simp [tail, low_len]] at hvk
          have HVK := Lib.hid hvk
          have hTl4 : TB.length = 8 := by rw [TBk.out]; simp [tail, low_len]
          rw [hTl4] at HVK
          clear hvk
          refine HVK.out.mono ?_
          rintro e w4 ⟨v4, rfl, hv4, hb4⟩
          rw [← hTl4] at hv4
          obtain ⟨a4, e4, rfl, -, -, ha4, hr4, -⟩ := hv4.form
          have hown4 := hown3.below hb4
          have hbl4 := hbl3.trans (hb4.mono hbl3.size)
          clear HVK hown3 hbl3 hb4 hv4 hTl4
          go_wp2_with (at_builtin; go_must (refine wpList_app' w hbl4 rfl (.tmp 54) (.tmp 57) 22 rfl 5 (.int .u8 0) 1 1 Try.underlying22 Try.infoU8 rfl (by decide) v3 (A.length + KB.length) (A.map (Value.int .u8) ++ KB.map (Value.int .u8)) rfl hown4 a4 TB.length e4 (TB.map (Value.int .u8)) rfl ha4 hr4 (by simp) (ints_one .u8 _) (by omega) (by decide) ?_); intro v5 w5 hown5 hg5 hbl5; clear hown4 hbl4 hg5 hr4 hX3 x1 x2 x3)
          go_roundw
          case rel =>
            refine ⟨k + 1, A ++ KB ++ TB, by omega, by go_num, by simp only [List.length_append]; omega, HP.out.trans HF.out, ?_, hbl5⟩
            simpa [Nat.add_assoc] using hown5
          case measure => simp [intOf]; omega
        · go_wp2_with (at_builtin; go_must (refine wpList_app' w hbl2 rfl (.tmp 19) (.tmp 29) 22 rfl 5 (.int .u8 0) 1 1 Try.underlying22 Try.infoU8 rfl (by decide) u4 A.length (A.map (Value.int .u8)) rfl hown2 a2 KB.length e2 (KB.map (Value.int .u8)) rfl ha2 hr2 (by simp) (ints_one .u8 _) (by omega) (by decide) ?_); intro v3 w3 hown3 hg3 hbl3; have hX3 := hX2.grown hg3 hne2; have x1 := hX3.cell 1 rfl; have x2 := hX3.cell 2 rfl; have x3 := hX3.cell 3 rfl; clear hX2 hown2 hbl2 hne2 hg3 hr2)
          have hvk := vbytes_any (some ⟨w3.heap.size, 0, none⟩) 1 [(bs.length : Int)] (by intro y hy; obtain rfl := List.mem_singleton.1 hy; omega) (by simp) (w3.drew.alloc (.cells #[.int .u64 (bs.length : Int)] 23)) (Rd.lit w3.drew _ [.int .u64 (bs.length : Int)] 23 rfl)
          obtain ⟨LB, hLB⟩ : ∃ LB, LB = vb (bs.length : Int) := ⟨_, rfl⟩
          rw [show vbs [(bs.length : Int)] = LB by rw [hLB]; simp [vbs]] at hvk
          have HVK := Lib.hid hvk
          have hTB2 : TB = LB ++ bs := by rw [TBk.out, hLB]; simp [tail]
          have hLl : LB.length ≤ 10 := by rw [hLB]; exact vb_len10 _ (by omega)
          have HTB2 := Lib.hid hTB2
          have hpc := HXO.out.2.2.2
          dsimp only at hpc
          clear hvk hTB2 hLB
          refine wp_region_lit_txt [0, 1, 2, 3, 4, 8, 9, 11] (fun W => W.cell? ⟨wr.heap.size, 3, none⟩ = some (.slice p bs.length cx)) (by kernel_rfl) (by kernel_rfl) (by kernel_rfl) x3 ?_
          (refine txt_light ?_ rfl rfl ?_ ?_; rotate_left; · (intro w' hS; (try dsimp only at hS); go_simp; with_reducible rfl)); try simp only [Act.put, List.setIfInBounds_toArray, List.set_cons_zero, List.set_cons_succ]
          (refine txt_light ?_ rfl rfl ?_ ?_; rotate_left; · (intro w' hS; (try dsimp only at hS); go_simp; with_reducible rfl)); try simp only [Act.put, List.setIfInBounds_toArray, List.set_cons_zero, List.set_cons_succ]
          (refine txt_light ?_ rfl rfl ?_ ?_; rotate_left; · (intro w' hS; (try dsimp only at hS); go_simp; with_reducible rfl)); try simp only [Act.put, List.setIfInBounds_toArray, List.set_cons_zero, List.set_cons_succ]
          (refine txt_light ?_ rfl rfl ?_ ?_; rotate_left; · (intro w' hS; (try dsimp only at hS); go_simp; with_reducible rfl)); try simp only [Act.put, List.setIfInBounds_toArray, List.set_cons_zero, List.set_cons_succ]
          (refine txt_light ?_ rfl rfl ?_ ?_; rotate_left; · (intro w' hS; (try dsimp only at hS); go_simp; with_reducible rfl)); try simp only [Act.put, List.setIfInBounds_toArray, List.set_cons_zero, List.set_cons_succ]
          refine txt_heavy rfl rfl (fun K hK => ?_)
          go_step
          have hX4 := BlkT.keep (w := w3.drew) hX3 (Below.new w3.drew (.cells #[.int .u64 (bs.length : Int)] 23))
          refine hK.out _ _ (hX4.cell 3 rfl) ?_
          clear hK K
          try simp only [Act.put, List.setIfInBounds_toArray, List.set_cons_zero, List.set_cons_succ]
          refine txt_call [.slice (some ⟨w3.heap.size, 0, none⟩) 1 1] Try.f26 rfl rfl Try.func26 (by kernel_rfl) (by kernel_rfl) rfl (HVK.out.mono ?_)
          rintro e w4 ⟨v4, rfl, hv4, hb4⟩
          obtain ⟨a4, e4, rfl, -, -, ha4, hr4, -⟩ := hv4.form
          have hX5 := hX4.keep hb4
          have hown4 := (World.ownsRow.below (w := w3.drew) hown3 (Below.new w3.drew (.cells #[.int .u64 (bs.length : Int)] 23))).below hb4
          have hbl4 := (hbl3.drew.alloc hbl3.size (.cells #[.int .u64 (bs.length : Int)] 23)).trans (hb4.mono (by have := hbl3.size; simp; omega))
          have hne4 := hX5.not_row (by decide) hown4
          refine ⟨_, rfl, hX5.cell 3 rfl, ?_⟩
          clear HVK hown3 hbl3 hb4 hv4 hX4 hX3
          try simp only [Act.put, List.setIfInBounds_toArray, List.set_cons_zero, List.set_cons_succ]
          refine txt_app w hbl4 rfl rfl (.tmp 33) (.tmp 39) 22 rfl 5 (.int .u8 0) 1 1 Try.underlying22 Try.infoU8 rfl (by decide) v3 (A.length + KB.length) (A.map (Value.int .u8) ++ KB.map (Value.int .u8)) rfl hown4 a4 LB.length e4 (LB.map (Value.int .u8)) rfl ha4 hr4 (by simp) (ints_one .u8 _) (by omega) (by decide) ?_
          intro v5 w5 hown5 hg5 hbl5
          have hX6 := hX5.grown hg5 hne4
          refine ⟨hX6.cell 3 rfl, ?_⟩
          have hr6 := HXO.out.1.keep hbl5
          dsimp only at hr6
          have hne6 := hX6.not_row (by decide) hown5
          clear hown4 hbl4 hr4 hX5 hg5 hne4
          try simp only [Act.put, List.setIfInBounds_toArray, List.set_cons_zero, List.set_cons_succ]
          (refine txt_light ?_ rfl rfl ?_ ?_; rotate_left; · (intro w' hS; (try dsimp only at hS); go_simp; with_reducible rfl)); try simp only [Act.put, List.setIfInBounds_toArray, List.set_cons_zero, List.set_cons_succ]
          (refine txt_light ?_ rfl rfl ?_ ?_; rotate_left; · (intro w' hS; (try dsimp only at hS); go_simp; with_reducible rfl)); try simp only [Act.put, List.setIfInBounds_toArray, List.set_cons_zero, List.set_cons_succ]
          refine txt_app w hbl5 rfl rfl (.tmp 40) (.tmp 42) 22 rfl 5 (.int .u8 0) 1 1 Try.underlying22 Try.infoU8 rfl (by decide) v5 (A.length + KB.length + LB.length) (A.map (Value.int .u8) ++ KB.map (Value.int .u8) ++ LB.map (Value.int .u8)) rfl hown5 p bs.length cx (bs.map (Value.int .u8)) rfl hpc hr6 (by simp) (ints_one .u8 _) (by omega) (by decide) ?_
          intro v7 w7 hown7 hg7 hbl7
          have hX8 := hX6.grown hg7 hne6
          refine ⟨hX8.cell 3 rfl, ?_⟩
          clear hown5 hbl5 hr6 hX6 hg7 hne6
          try simp only [Act.put, List.setIfInBounds_toArray, List.set_cons_zero, List.set_cons_succ]
          (refine txt_light ?_ rfl rfl ?_ ?_; rotate_left; · (intro w' hS; (try dsimp only at hS); go_simp; with_reducible rfl)); try simp only [Act.put, List.setIfInBounds_toArray, List.set_cons_zero, List.set_cons_succ]
          refine txt_nil ?_
          clear hX8 x1 x2 x3
          go_wp2
          go_roundw
          case rel =>
            have hl2 : TB.length = LB.length + bs.length := by rw [HTB2.out]; simp
            refine ⟨k + 1, A ++ KB ++ TB, by omega, by go_num, by simp only [List.length_append]; omega, HP.out.trans HF.out, ?_, hbl7⟩
            rw [HTB2.out]
            simpa [Nat.add_assoc] using hown7
          case measure => simp [intOf]; omega
        · go_wp2_with (at_builtin; go_must (refine wpList_app' w hbl2 rfl (.tmp 19) (.tmp 29) 22 rfl 5 (.int .u8 0) 1 1 Try.underlying22 Try.infoU8 rfl (by decide) u4 A.length (A.map (Value.int .u8)) rfl hown2 a2 KB.length e2 (KB.map (Value.int .u8)) rfl ha2 hr2 (by simp) (ints_one .u8 _) (by omega) (by decide) ?_); intro v3 w3 hown3 hg3 hbl3; have hX3 := hX2.grown hg3 hne2; have x1 := hX3.cell 1 rfl; have x2 := hX3.cell 2 rfl; have x3 := hX3.cell 3 rfl; clear hX2 hown2 hbl2 hne2 hg3 hr2)
          have hvk := plow_any n 4 (by omega) ⟨hn0, hn1⟩ w3
          rw [show low n 4 = TB by rw [TBk.out]; simp [tail], show (4 : Nat) = TB.length by rw [TBk.out]; simp [tail, low_len]] at hvk
          have HVK := Lib.hid hvk
          have hTl4 : TB.length = 4 := by rw [TBk.out]; simp [tail, low_len]
          rw [hTl4] at HVK
          clear hvk
          refine HVK.out.mono ?_
          rintro e w4 ⟨v4, rfl, hv4, hb4⟩
          rw [← hTl4] at hv4
          obtain ⟨a4, e4, rfl, -, -, ha4, hr4, -⟩ := hv4.form
          have hown4 := hown3.below hb4
          have hbl4 := hbl3.trans (hb4.mono hbl3.size)
          clear HVK hown3 hbl3 hb4 hv4 hTl4
          go_wp2_with (at_builtin; go_must (refine wpList_app' w hbl4 rfl (.tmp 61) (.tmp 64) 22 rfl 5 (.int .u8 0) 1 1 Try.underlying22 Try.infoU8 rfl (by decide) v3 (A.length + KB.length) (A.map (Value.int .u8) ++ KB.map (Value.int .u8)) rfl hown4 a4 TB.length e4 (TB.map (Value.int .u8)) rfl ha4 hr4 (by simp) (ints_one .u8 _) (by omega) (by decide) ?_); intro v5 w5 hown5 hg5 hbl5; clear hown4 hbl4 hg5 hr4 hX3 x1 x2 x3)
          go_roundw
          case rel =>
            refine ⟨k + 1, A ++ KB ++ TB, by omega, by go_num, by simp only [List.length_append]; omega, HP.out.trans HF.out, ?_, hbl5⟩
            simpa [Nat.add_assoc] using hown5
          case measure => simp [intOf]; omega
      · go_wp2_with fail
        refine (HCK.out _).mono ?_
        rintro e w1 ⟨rfl, hb1⟩
        have HE := Lib.hid (HP.out.trans (HER.out h0))
        have hne : (ck != 0) = true := by simpa using h0
        have hbl1 := (hbl.alloc hbl.size _).trans (hb1.mono (by have := hbl.size; simp; omega))
        clear hkin HST HER HFL HCK HXO hb1 hown
        go_wp2
        refine bodyPost_ret (v := .tuple #[.slice none 0 0, .int .i64 ck]) (by simp [results, Try.results15, go_sem]) rfl ⟨.slice none 0 0, ?_, ?_, hbl1⟩
        · rw [HE.out]
        · rw [HE.out]; exact World.ownsRow_nil _ _ _ _
    · obtain rfl : k = xs.length := by omega
      have HE := Lib.hid HP.out
      rw [List.drop_of_length_le (by simp)] at HE
      go_wp2
      refine bodyPost_ret (v := .tuple #[u4, .int .i64 0]) (by simp [results, Try.results15, go_sem]) rfl ⟨u4, ?_, ?_, hbl⟩
      · rw [HE.out]; rfl
      · rw [HE.out]; exact hown
end Go.Proofs.Ytoicahfpnnhgpaa
