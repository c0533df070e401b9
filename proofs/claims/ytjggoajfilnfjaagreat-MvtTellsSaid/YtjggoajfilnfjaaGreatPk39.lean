/-
  graticuleref23.Numbers.
-/
import Derived.Test.YtjggoajfilnfjaaGreatPk16
import Derived.Test.YtjggoajfilnfjaaGreatPk8
import Derived.Test.YtjggoajfilnfjaaGreatPk38
set_option linter.unusedVariables false
set_option linter.unusedSimpArgs false
set_option maxRecDepth 100000
namespace Go
open Go.RowKit Go.Vint

def preN (a : Pt) (l : List Pt) : Nat → List Int
 | 0 => []
 | j + 1 => preN a l j ++ (if j = 0 then [9] else if j = 1 then [((l.length : Int) - 1) * 8 + 2] else []) ++ byN (lastP a l j) l[j]!

theorem preN_len (a : Pt) (l : List Pt) (j : Nat) : (preN a l j).length ≤ 3 * j := by
 induction j with
 | zero => simp [preN]
 | succ j ih =>
  have h2 : (byN (lastP a l j) l[j]!).length = 2 := rfl; rw [preN, List.length_append, List.length_append, h2]
  by_cases h0 : j = 0
  ·rw [if_pos h0]; subst h0; simp [preN]
  ·rw [if_neg h0]
   split <;> simp <;> omega

theorem pn_snoc (m : List Pt) : ∀ (a p : Pt), pn a (m ++ [p]) = pn a m ++ byN (lastP a m m.length) p := by
 induction m with
 | nil => intro a p; simp [pn, lastP]
 | cons q m ih =>
  intro a p; have e : lastP a (q :: m) (q :: m).length = lastP q m m.length := by
   unfold lastP
   cases m with
   | nil => simp
   | cons r m => simp
  rw [e, List.cons_append, pn, pn, ih, List.append_assoc]

theorem preN_two (a : Pt) (l : List Pt) (i : Nat) (h : i + 2 ≤ l.length) : preN a l (i + 2) = [(9 : Int)] ++ byN a l[0]! ++ [((l.length : Int) - 1) * 8 + 2] ++ pn l[0]! ((l.drop 1).take (i + 1)) := by
 induction i with
 | zero =>
  have e : (l.drop 1).take (0 + 1) = [l[1]!] := by
   rw [List.take_succ_eq_append_getElem (by simp; omega), List.getElem_drop, getElem!_pos l 1 (by omega)]; simp
  rw [e]; simp [preN, pn, lastP]
 | succ i ih =>
  rw [preN, ih (by omega), if_neg (by omega), if_neg (by omega)]; have hd : (l.drop 1)[i + 1]'(by simp; omega) = l[i + 2]! := by rw [List.getElem_drop, getElem!_pos l (i + 2) (by omega)]; congr 1; omega
  rw [List.take_succ_eq_append_getElem (by simp; omega : i + 1 < (l.drop 1).length), hd, pn_snoc]; have e : lastP a l (i + 2) = lastP l[0]! ((l.drop 1).take (i + 1)) ((l.drop 1).take (i + 1)).length := by
   have hl : ((l.drop 1).take (i + 1)).length = i + 1 := by simp; omega
   unfold lastP; rw [hl, if_neg (by omega), if_neg (by omega), getElem!_pos l (i + 2 - 1) (by omega), getElem!_pos _ (i + 1 - 1) (by rw [hl]; omega), List.getElem_take, List.getElem_drop]
   congr 1; omega
  rw [e, List.append_nil, List.append_assoc]

theorem preN_all (kind : Int) (a : Pt) (l : List Pt) (h : 2 ≤ l.length) : partN kind a l = preN a l l.length ++ (if kind = 3 then [15] else []) := by
 obtain ⟨i, hi⟩ : ∃ i, l.length = i + 2 := ⟨l.length - 2, by omega⟩; have := preN_two a l i (by omega); rw [← hi] at this; rw [this, List.take_of_length_le (by simp; omega)]
 rfl
theorem lastP_all (a : Pt) (l : List Pt) (h : 2 ≤ l.length) : lastP a l l.length = l[l.length - 1]! := by unfold lastP; rw [if_neg (by omega)]
end Go
namespace Go.Proofs.YtjggoajfilnfjaaGreat
open Go.RowKit Go.Vint

set_option maxHeartbeats 3200000 in
theorem rnums_any (kind : Int) (hk : kind = 2 ∨ kind = 3) (a : Option Addr) (c : Nat) (xs : List PC) (hl : xs.length ≤ 100) (hle : ∀ x ∈ xs, x.l.length ≤ 1000) (hcl : ∀ x ∈ xs, 2 ≤ x.l.length ∧ ∀ p ∈ x.l, Close p) (w : World) (hr : Rd w a (xs.map PC.val)) (hok : ∀ x ∈ xs, x.Ok w) (R : List Int)
  (hR : numsF kind ⟨0, 0⟩ (xs.map (·.l)) = R) :
  Calls Tryz.prog 71 #[.int .i64 kind, .slice a xs.length c] w fun e w' => ∃ v, e = .returned v ∧
   w'.ownsRow w.heap.size 70 1 v R.length (R.map (Value.int .u64)) ∧ Below w.heap.size w w' := by
 have HX := Lib.hid hcl; have HRR := Lib.hid hR; have HOK := Lib.hid hok; have HLE := Lib.hid hle; clear hcl hR hok hle
 go_enter Tryz.func71, Tryz.ntmps71
 go_wp2
 go_loopw [5, 7] (fun o i wr => ∃ (k : Nat) (S : List Int) (at' : Pt), k ≤ xs.length ∧ i = .int .i64 k ∧ R = S ++ numsF kind at' ((xs.map (·.l)).drop k) ∧ S.length ≤ 3001 * k ∧ Close at' ∧
  wr.ownsRow (w.heap.size + 1) 70 1 o S.length (S.map (Value.int .u64)) ∧ Blk wr w.heap.size at'.cells ∧ Below w.heap.size w wr) (fun _ i _ => xs.length - (intOf i).toNat)
 case atStart =>
  exact ⟨0, [], ⟨0, 0⟩, Nat.zero_le _, rfl, HRR.out.symm, by simp, ⟨⟨by decide, by decide⟩, by decide, by decide⟩, World.ownsRow_nil _ _ _ _, Blk.new w [.int .i64 0, .int .i64 0] _, Below.new w _⟩
 case round =>
  obtain ⟨k, S, at', hk1, rfl, hRS, hSl, hca, hown, hba, hbl⟩ := hrel; have hs := hbl.size
  by_cases hlt : k < xs.length
  ·obtain ⟨x, hxk⟩ : ∃ x, xs[k] = x := ⟨_, rfl⟩; have hxm : x ∈ xs := by rw [← hxk]; exact List.getElem_mem _
   have hxo : x.Ok w := HOK.out x hxm; have hxl := HLE.out x hxm; obtain ⟨hx2, hxc⟩ := HX.out x hxm; obtain ⟨bb, ob, rfl, c0, _⟩ := (hr.keep hbl).at (i := k) (v := x.val) (by simp [hlt, hxk]); have hcx : ∀ W, Below w.heap.size w W → W.cell? ⟨bb, ob + k, none⟩ = some x.val := fun W h => by
    obtain ⟨_, _, ee, d0, _⟩ := (hr.keep h).at (i := k) (v := x.val) (by simp [hlt, hxk])
    cases ee; exact d0
   have hd : (xs.map (·.l)).drop k = x.l :: (xs.map (·.l)).drop (k + 1) := by
    rw [List.drop_eq_getElem_cons (by simpa using hlt)]; simp [hxk]
   rw [hd, numsF, preN_all _ _ _ hx2, ← lastP_all at' _ hx2] at hRS; have HRS := Lib.hid hRS; have HXC := Lib.hid hxc; have HCX := Lib.hid hcx; clear hd hxk hxm hRS hxc HOK HLE HX HRR hcx; obtain ⟨l, p, cx⟩ := x; obtain ⟨hr2, hc2, hc3, hc4⟩ := hxo; dsimp only [PC.val] at *; obtain ⟨pb, po, rfl, -, -, -⟩ := hr2.pt 0 (by omega); have hSb : S.length ≤ 300100 := by omega
   have HLA0 : Hid (lastP at' l 0 = at') := Lib.hid (by unfold lastP; rw [if_pos rfl]); have hS0 : S.length = (S ++ preN at' l 0).length := by simp [preN]
   go_wp2
   go_loopw [5, 8] (fun o i wj => ∃ (j : Nat) (q' : Pt), j ≤ l.length ∧ i = .int .i64 j ∧ lastP at' l j = q' ∧ Close q' ∧
    wj.ownsRow (w.heap.size + 1) 70 1 o (S ++ preN at' l j).length ((S ++ preN at' l j).map (Value.int .u64)) ∧ Blk wj w.heap.size q'.cells ∧ Below w.heap.size w wj) (fun _ i _ => l.length - (intOf i).toNat)
   case atStart => exact ⟨0, at', Nat.zero_le _, rfl, HLA0.out, hca, by simpa [preN] using hown, hba, hbl⟩
   case round =>
    obtain ⟨j, q', hj, rfl, hq', hqc, hA0, bA0, hbA0⟩ := hrel; have hs8 := hbA0.size; have cc := HCX.out _ hbA0
    by_cases hlj : j < l.length
    ·obtain ⟨_, _, ee, -, f0, f1⟩ := (hr2.keep hbA0).pt j hlj
     cases ee
     rw [← getElem!_pos l j hlj] at f0 f1; have hpc : Close l[j]! := by rw [getElem!_pos l j hlj]; exact HXC.out _ (List.getElem_mem _)
     have hla : Hid (lastP at' l (j + 1) = l[j]!) := Lib.hid (by unfold lastP; rw [if_neg (by omega)]; rfl); have hpre0 : S ++ preN at' l (j + 1) = S ++ preN at' l j ++ (if j = 0 then [9] else if j = 1 then [((l.length : Int) - 1) * 8 + 2] else []) ++ byN q' l[j]! := by rw [preN, hq']; simp only [List.append_assoc]
     have hT0 : (S ++ preN at' l j).length ≤ 310000 := by have := preN_len at' l j; rw [List.length_append]; omega
     generalize l[j]! = p at *; have HLA := hla; have HCP := Lib.hid hpc; obtain ⟨x, y⟩ := p; obtain ⟨ax, ay⟩ := q'; have hz1 := rzig_any (x - ax) (by have := hpc.1; have := hqc.1; dsimp only at *; omega) (by have := hpc.1; have := hqc.1; dsimp only at *; omega); have hz2 := rzig_any (y - ay) (by have := hpc.2; have := hqc.2; dsimp only at *; omega) (by have := hpc.2; have := hqc.2; dsimp only at *; omega); have hw1 : IntKind.i64.wrap (x - ax) = x - ax := IntWalk.i64_in _ (by have := hpc.1; have := hqc.1; dsimp only at *; omega); have hw2 : IntKind.i64.wrap (y - ay) = y - ay := IntWalk.i64_in _ (by have := hpc.2; have := hqc.2; dsimp only at *; omega); have hby : byN ⟨ax, ay⟩ ⟨x, y⟩ = [zig (x - ax), zig (y - ay)] := rfl; rw [hby] at hpre0; have HZ1 := Lib.hid hz1; have HZ2 := Lib.hid hz2; generalize zig (x - ax) = zx at *; generalize zig (y - ay) = zy at *; have hpre := hpre0; dsimp only [Pt.cells] at *; clear hz1 hz2 hby hpre0 hla hpc hqc hq'; obtain ⟨o0, ho0⟩ : ∃ o0, u5 = o0 := ⟨_, rfl⟩; rw [ho0] at hA0 ⊢; obtain ⟨T0, hT0e⟩ : ∃ T0, S ++ preN at' l j = T0 := ⟨_, rfl⟩; rw [hT0e] at hA0 hpre hT0; have bP0 := Blk.new wr [.int .i64 x, .int .i64 y] 159; have bA0' := bA0.alloc (.cells #[.int .i64 x, .int .i64 y] 159); have hA0' := hA0.below (Below.new wr (.cells #[.int .i64 x, .int .i64 y] 159)); have hbA0' := hbA0.alloc hs8 (.cells #[.int .i64 x, .int .i64 y] 159); have hlA0 := bA0.lt; have hobP : ∀ g, o0.ownBlock = some g → g ≠ wr.heap.size := fun g hg => by have := (hA0.lt g hg).2; omega
     obtain ⟨Pb, hPb⟩ : ∃ Pb, wr.heap.size = Pb := ⟨_, rfl⟩; obtain ⟨wP, hwP⟩ : ∃ wP, wr.alloc (.cells #[.int .i64 x, .int .i64 y] 159) = wP := ⟨_, rfl⟩; clear hA0 bA0 hbA0 hT0e; rw [hwP] at bP0 bA0' hA0' hbA0'; rw [hPb] at bP0 hlA0 hobP; have hA0 := hA0'; have bA0 := bA0'; have hbA0 := hbA0'; clear hA0' bA0' hbA0'; have ccP := HCX.out wP hbA0; obtain ⟨ti, hti, hz0, hz1, hz2⟩ := info_parts Tryz.infoU64
     by_cases hj0 : j = 0
     ·rw [if_pos hj0] at hpre; have hj0a : ((j : Int) == 0) = true := by simpa using hj0
      have hj0b : ((j : Int) == 1) = false := by simp; omega
      have HPRE0 := Lib.hid hpre; have HJ0 := Lib.hid hj0; clear hpre hj0
      go_wp2_with (at_builtin; go_must (refine wpList_append_own_at (wP.alloc (.cells #[.int .u64 9] 70)) rfl (.tmp 35) (.tmp 36) 151 rfl (w.heap.size + 1) 70 ti (.int .u64 0) 1 8 Tryz.underlying151 hti hz0 hz1 hz2 rfl (by decide) o0 T0.length (T0.map (Value.int .u64)) rfl (hA0.below (Below.new _ _)) ⟨wP.heap.size, 0, none⟩ 1 1 [.int .u64 9] rfl rfl (Rd.lit wP _ [.int .u64 9] 70 rfl).add (by simp [Value.oneCell']) (by unfold maxLen; omega) (by omega) (Nat.le_trans (Nat.succ_le_of_lt bA0.lt) (Below.new wP _).size) ?_); intro o1 w1 hA hg1 _ h5)
      have hob := hA0.lt; have bP := (bP0.alloc (.cells #[.int .u64 9] 70)).grown hg1 (fun e => hobP _ e.symm rfl); have bA := (bA0.alloc (.cells #[.int .u64 9] 70)).grown hg1 (fun e => by have := (hob _ e.symm).1; omega); have hbA := (hbA0.alloc hbA0.size (.cells #[.int .u64 9] 70)).grown hg1 (Nat.le_trans hbA0.size (Below.new wP _).size) (fun k hk => by have := (hob k hk).1; omega); obtain ⟨A, hAA⟩ : ∃ A, A = T0 ++ [9] := ⟨_, rfl⟩; have hA1 : w1.ownsRow (w.heap.size + 1) 70 1 o1 A.length (A.map (Value.int .u64)) := by rw [hAA, List.length_append, List.map_append]; exact hA
      have hobQ : ∀ g, o1.ownBlock = some g → g ≠ Pb := by
       intro g hg
       rcases h5 with h5 | h5
       ·rw [h5] at hg; exact hobP g hg
       ·rw [h5] at hg; have := bP0.lt; simp at hg; omega
      have hAl : A.length = T0.length + 1 := by rw [hAA]; simp
      have HPRE : Hid (S ++ preN at' l (j + 1) = A ++ [zx, zy]) := Lib.hid (by rw [HPRE0.out, hAA]); clear h5 hA hg1 hA0 bP0 bA0 hbA0 hob hAA HPRE0; have hA := hA1; clear hA1; refine wp_region_lit_txt [0, 1, 2, 3, 4, 5, 7, 8, 9, 10, 11, 15] (fun W => Blk W Pb [.int .i64 x, .int .i64 y] ∧ Blk W w.heap.size [.int .i64 ax, .int .i64 ay]) (by kernel_rfl) (by kernel_rfl) (by kernel_rfl) ⟨bP.drew, bA.drew⟩ ?_; refine txt_light (o1) rfl rfl ?_ ?_
      ·intro w' hS; go_simp
      try simp only [Act.put, List.setIfInBounds_toArray, List.set_cons_zero, List.set_cons_succ]
      (refine txt_light ?_ rfl rfl ?_ ?_; rotate_left; · (intro w' hS; (try dsimp only at hS); go_simp; with_reducible rfl)); try simp only [Act.put, List.setIfInBounds_toArray, List.set_cons_zero, List.set_cons_succ]
      refine txt_light (.int .i64 x) rfl rfl ?_ ?_
      ·intro w' hS; have c0 := hS.1.cell 0 rfl; go_simp
      try simp only [Act.put, List.setIfInBounds_toArray, List.set_cons_zero, List.set_cons_succ]
      (refine txt_light ?_ rfl rfl ?_ ?_; rotate_left; · (intro w' hS; (try dsimp only at hS); go_simp; with_reducible rfl)); try simp only [Act.put, List.setIfInBounds_toArray, List.set_cons_zero, List.set_cons_succ]
      refine txt_light (.int .i64 ax) rfl rfl ?_ ?_
      ·intro w' hS; have c0 := hS.2.cell 0 rfl; go_simp
      try simp only [Act.put, List.setIfInBounds_toArray, List.set_cons_zero, List.set_cons_succ]
      refine txt_light (.int .i64 (x - ax)) rfl rfl ?_ ?_
      ·intro w' hS; go_simp
      try simp only [Act.put, List.setIfInBounds_toArray, List.set_cons_zero, List.set_cons_succ]
      refine txt_call [.int .i64 (x - ax)] Tryz.f97 rfl rfl Tryz.func97 (by kernel_rfl) (by kernel_rfl) rfl ((HZ1.out _).mono ?_); rintro e w3 ⟨rfl, rfl⟩; refine ⟨_, rfl, ⟨bP.drew, bA.drew⟩, ?_⟩
      try simp only [Act.put, List.setIfInBounds_toArray, List.set_cons_zero, List.set_cons_succ]
      (refine txt_light ?_ rfl rfl ?_ ?_; rotate_left; · (intro w' hS; (try dsimp only at hS); go_simp; with_reducible rfl)); try simp only [Act.put, List.setIfInBounds_toArray, List.set_cons_zero, List.set_cons_succ]
      refine txt_light (.int .i64 y) rfl rfl ?_ ?_
      ·intro w' hS; have c0 := hS.1.cell 1 rfl; go_simp
      try simp only [Act.put, List.setIfInBounds_toArray, List.set_cons_zero, List.set_cons_succ]
      (refine txt_light ?_ rfl rfl ?_ ?_; rotate_left; · (intro w' hS; (try dsimp only at hS); go_simp; with_reducible rfl)); try simp only [Act.put, List.setIfInBounds_toArray, List.set_cons_zero, List.set_cons_succ]
      refine txt_light (.int .i64 ay) rfl rfl ?_ ?_
      ·intro w' hS; have c0 := hS.2.cell 1 rfl; go_simp
      try simp only [Act.put, List.setIfInBounds_toArray, List.set_cons_zero, List.set_cons_succ]
      refine txt_light (.int .i64 (y - ay)) rfl rfl ?_ ?_
      ·intro w' hS; go_simp
      try simp only [Act.put, List.setIfInBounds_toArray, List.set_cons_zero, List.set_cons_succ]
      refine txt_call [.int .i64 (y - ay)] Tryz.f97 rfl rfl Tryz.func97 (by kernel_rfl) (by kernel_rfl) rfl ((HZ2.out _).mono ?_); rintro e w3 ⟨rfl, rfl⟩; refine ⟨_, rfl, ⟨bP.drew, bA.drew⟩, ?_⟩
      try simp only [Act.put, List.setIfInBounds_toArray, List.set_cons_zero, List.set_cons_succ]
      refine txt_heavy rfl rfl (fun K hK => ?_); go_step; have hb3 := Below.new w1.drew (.cells #[.int .u64 zx, .int .u64 zy] 70); have x1 := (Blk.drew bP).keep hb3; have x2 := (Blk.drew bA).keep hb3; have xo := World.ownsRow.below (w := w1.drew) hA hb3; have xr := Rd.lit w1.drew w1.heap.size [.int .u64 zx, .int .u64 zy] 70 rfl; have hB3 : Below w.heap.size w (w1.drew.alloc (.cells #[.int .u64 zx, .int .u64 zy] 70)) := (hbA.drew).alloc hbA.size _; have HOB := hA.lt; refine hK.out _ _ ⟨x1, x2⟩ ?_; clear hK K bP bA hA hb3 hbA
      try simp only [Act.put, List.setIfInBounds_toArray, List.set_cons_zero, List.set_cons_succ]
      refine txt_heavy rfl rfl (fun K hK => ?_); refine wp_app (.tmp 52) (.tmp 65) 151 rfl (w.heap.size + 1) 70 (.int .u64 0) 1 8 Tryz.underlying151 Tryz.infoU64 rfl (by decide) o1 A.length (A.map (Value.int .u64)) rfl xo (some ⟨w1.heap.size, 0, none⟩) 2 2 [.int .u64 zx, .int .u64 zy] rfl (fun h => by cases h) xr rfl (by simp [Value.oneCell']) (by omega) (by decide) (Nat.succ_le_of_lt x2.lt) ?_; intro v2 w2 hown2 hg2; have y1 := x1.grown hg2 (fun e => hobQ _ e.symm rfl); have y2 := x2.grown hg2 (fun e => by have := (HOB _ e.symm).1; omega); have hB4 := hB3.grown hg2 hB3.size (fun k hk => by have := (HOB k hk).1; omega); refine hK.out _ _ ⟨y1, y2⟩ ?_; clear hK K x1 x2 xo xr hB3 hg2
      try simp only [Act.put, List.setIfInBounds_toArray, List.set_cons_zero, List.set_cons_succ]
      refine txt_light (v2) rfl rfl ?_ ?_
      ·intro w' hS; go_simp
      try simp only [Act.put, List.setIfInBounds_toArray, List.set_cons_zero, List.set_cons_succ]
      refine txt_nil ?_; have e0 := y1.cell 0 rfl; have e1 := y1.cell 1 rfl; have g0 := y2.cell 0 rfl; have g1 := y2.cell 1 rfl; have q0 := y2.free 0; have q1 := y2.free 1; go_wp2; go_roundw
      case rel =>
       refine ⟨j + 1, ⟨x, y⟩, by omega, by go_num, HLA.out, HCP.out, ?_, (y2.set 0 (.int .i64 x)).set 1 (.int .i64 y), (hB4.set_at (Nat.le_refl _) _).set_at (Nat.le_refl _) _⟩; rw [HPRE.out, List.length_append, List.map_append]; refine (hown2.set_ne (p := ⟨w.heap.size, 0, none⟩) ?_ (.int .i64 x)).set_ne (p := ⟨w.heap.size, 1, none⟩) ?_ (.int .i64 y)
       ·exact fun h => by have := (hown2.lt _ h).1; simp at this; omega
       ·exact fun h => by have := (hown2.lt _ h).1; simp at this; omega
      case measure => simp [intOf]; omega
     ·by_cases hj1 : j = 1
      ·rw [if_neg hj0, if_pos hj1] at hpre; have hj0a : ((j : Int) == 0) = false := by simpa using hj0
       have hj0b : ((j : Int) == 1) = true := by simp; omega
       obtain ⟨VV, hVV⟩ : ∃ VV, ((l.length : Int) - 1) * 8 + 2 = VV := ⟨_, rfl⟩; have hVV2 : 8 * ((l.length : Int) - 1) + 2 = VV := by omega
       have hVV3 : 0 ≤ VV ∧ VV ≤ 10000 := by omega
       rw [hVV] at hpre; clear hVV; have HPRE0 := Lib.hid hpre; have HJ0 := Lib.hid hj1; clear hpre hj1 hj0
       go_wp2_with (at_builtin; go_must (refine wpList_append_own_at (wP.alloc (.cells #[.int .u64 VV] 70)) rfl (.tmp 40) (.tmp 50) 151 rfl (w.heap.size + 1) 70 ti (.int .u64 0) 1 8 Tryz.underlying151 hti hz0 hz1 hz2 rfl (by decide) o0 T0.length (T0.map (Value.int .u64)) rfl (hA0.below (Below.new _ _)) ⟨wP.heap.size, 0, none⟩ 1 1 [.int .u64 VV] rfl rfl (Rd.lit wP _ [.int .u64 VV] 70 rfl).add (by simp [Value.oneCell']) (by unfold maxLen; omega) (by omega) (Nat.le_trans (Nat.succ_le_of_lt bA0.lt) (Below.new wP _).size) ?_); intro o1 w1 hA hg1 _ h5)
       have hob := hA0.lt; have bP := (bP0.alloc (.cells #[.int .u64 VV] 70)).grown hg1 (fun e => hobP _ e.symm rfl); have bA := (bA0.alloc (.cells #[.int .u64 VV] 70)).grown hg1 (fun e => by have := (hob _ e.symm).1; omega); have hbA := (hbA0.alloc hbA0.size (.cells #[.int .u64 VV] 70)).grown hg1 (Nat.le_trans hbA0.size (Below.new wP _).size) (fun k hk => by have := (hob k hk).1; omega); obtain ⟨A, hAA⟩ : ∃ A, A = T0 ++ [VV] := ⟨_, rfl⟩; have hA1 : w1.ownsRow (w.heap.size + 1) 70 1 o1 A.length (A.map (Value.int .u64)) := by rw [hAA, List.length_append, List.map_append]; exact hA
       have hobQ : ∀ g, o1.ownBlock = some g → g ≠ Pb := by
        intro g hg
        rcases h5 with h5 | h5
        ·rw [h5] at hg; exact hobP g hg
        ·rw [h5] at hg; have := bP0.lt; simp at hg; omega
       have hAl : A.length = T0.length + 1 := by rw [hAA]; simp
       have HPRE : Hid (S ++ preN at' l (j + 1) = A ++ [zx, zy]) := Lib.hid (by rw [HPRE0.out, hAA]); clear h5 hA hg1 hA0 bP0 bA0 hbA0 hob hAA HPRE0; have hA := hA1; clear hA1; refine wp_region_lit_txt [0, 1, 2, 3, 4, 5, 7, 8, 9, 10, 11, 15] (fun W => Blk W Pb [.int .i64 x, .int .i64 y] ∧ Blk W w.heap.size [.int .i64 ax, .int .i64 ay]) (by kernel_rfl) (by kernel_rfl) (by kernel_rfl) ⟨bP.drew, bA.drew⟩ ?_; refine txt_light (o1) rfl rfl ?_ ?_
       ·intro w' hS; go_simp
       try simp only [Act.put, List.setIfInBounds_toArray, List.set_cons_zero, List.set_cons_succ]
       (refine txt_light ?_ rfl rfl ?_ ?_; rotate_left; · (intro w' hS; (try dsimp only at hS); go_simp; with_reducible rfl)); try simp only [Act.put, List.setIfInBounds_toArray, List.set_cons_zero, List.set_cons_succ]
       refine txt_light (.int .i64 x) rfl rfl ?_ ?_
       ·intro w' hS; have c0 := hS.1.cell 0 rfl; go_simp
       try simp only [Act.put, List.setIfInBounds_toArray, List.set_cons_zero, List.set_cons_succ]
       (refine txt_light ?_ rfl rfl ?_ ?_; rotate_left; · (intro w' hS; (try dsimp only at hS); go_simp; with_reducible rfl)); try simp only [Act.put, List.setIfInBounds_toArray, List.set_cons_zero, List.set_cons_succ]
       refine txt_light (.int .i64 ax) rfl rfl ?_ ?_
       ·intro w' hS; have c0 := hS.2.cell 0 rfl; go_simp
       try simp only [Act.put, List.setIfInBounds_toArray, List.set_cons_zero, List.set_cons_succ]
       refine txt_light (.int .i64 (x - ax)) rfl rfl ?_ ?_
       ·intro w' hS; go_simp
       try simp only [Act.put, List.setIfInBounds_toArray, List.set_cons_zero, List.set_cons_succ]
       refine txt_call [.int .i64 (x - ax)] Tryz.f97 rfl rfl Tryz.func97 (by kernel_rfl) (by kernel_rfl) rfl ((HZ1.out _).mono ?_); rintro e w3 ⟨rfl, rfl⟩; refine ⟨_, rfl, ⟨bP.drew, bA.drew⟩, ?_⟩
       try simp only [Act.put, List.setIfInBounds_toArray, List.set_cons_zero, List.set_cons_succ]
       (refine txt_light ?_ rfl rfl ?_ ?_; rotate_left; · (intro w' hS; (try dsimp only at hS); go_simp; with_reducible rfl)); try simp only [Act.put, List.setIfInBounds_toArray, List.set_cons_zero, List.set_cons_succ]
       refine txt_light (.int .i64 y) rfl rfl ?_ ?_
       ·intro w' hS; have c0 := hS.1.cell 1 rfl; go_simp
       try simp only [Act.put, List.setIfInBounds_toArray, List.set_cons_zero, List.set_cons_succ]
       (refine txt_light ?_ rfl rfl ?_ ?_; rotate_left; · (intro w' hS; (try dsimp only at hS); go_simp; with_reducible rfl)); try simp only [Act.put, List.setIfInBounds_toArray, List.set_cons_zero, List.set_cons_succ]
       refine txt_light (.int .i64 ay) rfl rfl ?_ ?_
       ·intro w' hS; have c0 := hS.2.cell 1 rfl; go_simp
       try simp only [Act.put, List.setIfInBounds_toArray, List.set_cons_zero, List.set_cons_succ]
       refine txt_light (.int .i64 (y - ay)) rfl rfl ?_ ?_
       ·intro w' hS; go_simp
       try simp only [Act.put, List.setIfInBounds_toArray, List.set_cons_zero, List.set_cons_succ]
       refine txt_call [.int .i64 (y - ay)] Tryz.f97 rfl rfl Tryz.func97 (by kernel_rfl) (by kernel_rfl) rfl ((HZ2.out _).mono ?_); rintro e w3 ⟨rfl, rfl⟩; refine ⟨_, rfl, ⟨bP.drew, bA.drew⟩, ?_⟩
       try simp only [Act.put, List.setIfInBounds_toArray, List.set_cons_zero, List.set_cons_succ]
       refine txt_heavy rfl rfl (fun K hK => ?_); go_step; have hb3 := Below.new w1.drew (.cells #[.int .u64 zx, .int .u64 zy] 70); have x1 := (Blk.drew bP).keep hb3; have x2 := (Blk.drew bA).keep hb3; have xo := World.ownsRow.below (w := w1.drew) hA hb3; have xr := Rd.lit w1.drew w1.heap.size [.int .u64 zx, .int .u64 zy] 70 rfl; have hB3 : Below w.heap.size w (w1.drew.alloc (.cells #[.int .u64 zx, .int .u64 zy] 70)) := (hbA.drew).alloc hbA.size _; have HOB := hA.lt; refine hK.out _ _ ⟨x1, x2⟩ ?_; clear hK K bP bA hA hb3 hbA
       try simp only [Act.put, List.setIfInBounds_toArray, List.set_cons_zero, List.set_cons_succ]
       refine txt_heavy rfl rfl (fun K hK => ?_); refine wp_app (.tmp 52) (.tmp 65) 151 rfl (w.heap.size + 1) 70 (.int .u64 0) 1 8 Tryz.underlying151 Tryz.infoU64 rfl (by decide) o1 A.length (A.map (Value.int .u64)) rfl xo (some ⟨w1.heap.size, 0, none⟩) 2 2 [.int .u64 zx, .int .u64 zy] rfl (fun h => by cases h) xr rfl (by simp [Value.oneCell']) (by omega) (by decide) (Nat.succ_le_of_lt x2.lt) ?_; intro v2 w2 hown2 hg2; have y1 := x1.grown hg2 (fun e => hobQ _ e.symm rfl); have y2 := x2.grown hg2 (fun e => by have := (HOB _ e.symm).1; omega); have hB4 := hB3.grown hg2 hB3.size (fun k hk => by have := (HOB k hk).1; omega); refine hK.out _ _ ⟨y1, y2⟩ ?_; clear hK K x1 x2 xo xr hB3 hg2
       try simp only [Act.put, List.setIfInBounds_toArray, List.set_cons_zero, List.set_cons_succ]
       refine txt_light (v2) rfl rfl ?_ ?_
       ·intro w' hS; go_simp
       try simp only [Act.put, List.setIfInBounds_toArray, List.set_cons_zero, List.set_cons_succ]
       refine txt_nil ?_; have e0 := y1.cell 0 rfl; have e1 := y1.cell 1 rfl; have g0 := y2.cell 0 rfl; have g1 := y2.cell 1 rfl; have q0 := y2.free 0; have q1 := y2.free 1; go_wp2; go_roundw
       case rel =>
        refine ⟨j + 1, ⟨x, y⟩, by omega, by go_num, HLA.out, HCP.out, ?_, (y2.set 0 (.int .i64 x)).set 1 (.int .i64 y), (hB4.set_at (Nat.le_refl _) _).set_at (Nat.le_refl _) _⟩; rw [HPRE.out, List.length_append, List.map_append]; refine (hown2.set_ne (p := ⟨w.heap.size, 0, none⟩) ?_ (.int .i64 x)).set_ne (p := ⟨w.heap.size, 1, none⟩) ?_ (.int .i64 y)
        ·exact fun h => by have := (hown2.lt _ h).1; simp at this; omega
        ·exact fun h => by have := (hown2.lt _ h).1; simp at this; omega
       case measure => simp [intOf]; omega
      ·rw [if_neg hj0, if_neg hj1, List.append_nil] at hpre; have hj0a : ((j : Int) == 0) = false := by simpa using hj0
       have hj0b : ((j : Int) == 1) = false := by simp; omega
       have HPRE := Lib.hid hpre; have HJ0 := Lib.hid hj0; have HJ1 := Lib.hid hj1; clear hpre hj0 hj1; have hobQ := hobP; have hbA := hbA0; have bP := bP0; have bA := bA0; have hA := hA0; clear hbA0 bP0 bA0 hA0
       go_wp2_with (fail)
       clear hwP; obtain ⟨w1, hw1e⟩ : ∃ w1, wP = w1 := ⟨_, rfl⟩; obtain ⟨o1, ho1⟩ : ∃ o1, o0 = o1 := ⟨_, rfl⟩; rw [hw1e] at bP bA hA hbA ⊢; rw [ho1] at hA hobQ ⊢; clear hw1e ho1 ho0; obtain ⟨A, hAA⟩ : ∃ A, T0 = A := ⟨_, rfl⟩; rw [hAA] at hA hT0 HPRE; refine wp_region_lit_txt [0, 1, 2, 3, 4, 5, 7, 8, 9, 10, 11, 15] (fun W => Blk W Pb [.int .i64 x, .int .i64 y] ∧ Blk W w.heap.size [.int .i64 ax, .int .i64 ay]) (by kernel_rfl) (by kernel_rfl) (by kernel_rfl) ⟨bP.drew, bA.drew⟩ ?_; refine txt_light (o1) rfl rfl ?_ ?_
       ·intro w' hS; go_simp
       try simp only [Act.put, List.setIfInBounds_toArray, List.set_cons_zero, List.set_cons_succ]
       (refine txt_light ?_ rfl rfl ?_ ?_; rotate_left; · (intro w' hS; (try dsimp only at hS); go_simp; with_reducible rfl)); try simp only [Act.put, List.setIfInBounds_toArray, List.set_cons_zero, List.set_cons_succ]
       refine txt_light (.int .i64 x) rfl rfl ?_ ?_
       ·intro w' hS; have c0 := hS.1.cell 0 rfl; go_simp
       try simp only [Act.put, List.setIfInBounds_toArray, List.set_cons_zero, List.set_cons_succ]
       (refine txt_light ?_ rfl rfl ?_ ?_; rotate_left; · (intro w' hS; (try dsimp only at hS); go_simp; with_reducible rfl)); try simp only [Act.put, List.setIfInBounds_toArray, List.set_cons_zero, List.set_cons_succ]
       refine txt_light (.int .i64 ax) rfl rfl ?_ ?_
       ·intro w' hS; have c0 := hS.2.cell 0 rfl; go_simp
       try simp only [Act.put, List.setIfInBounds_toArray, List.set_cons_zero, List.set_cons_succ]
       refine txt_light (.int .i64 (x - ax)) rfl rfl ?_ ?_
       ·intro w' hS; go_simp
       try simp only [Act.put, List.setIfInBounds_toArray, List.set_cons_zero, List.set_cons_succ]
       refine txt_call [.int .i64 (x - ax)] Tryz.f97 rfl rfl Tryz.func97 (by kernel_rfl) (by kernel_rfl) rfl ((HZ1.out _).mono ?_); rintro e w3 ⟨rfl, rfl⟩; refine ⟨_, rfl, ⟨bP.drew, bA.drew⟩, ?_⟩
       try simp only [Act.put, List.setIfInBounds_toArray, List.set_cons_zero, List.set_cons_succ]
       (refine txt_light ?_ rfl rfl ?_ ?_; rotate_left; · (intro w' hS; (try dsimp only at hS); go_simp; with_reducible rfl)); try simp only [Act.put, List.setIfInBounds_toArray, List.set_cons_zero, List.set_cons_succ]
       refine txt_light (.int .i64 y) rfl rfl ?_ ?_
       ·intro w' hS; have c0 := hS.1.cell 1 rfl; go_simp
       try simp only [Act.put, List.setIfInBounds_toArray, List.set_cons_zero, List.set_cons_succ]
       (refine txt_light ?_ rfl rfl ?_ ?_; rotate_left; · (intro w' hS; (try dsimp only at hS); go_simp; with_reducible rfl)); try simp only [Act.put, List.setIfInBounds_toArray, List.set_cons_zero, List.set_cons_succ]
       refine txt_light (.int .i64 ay) rfl rfl ?_ ?_
       ·intro w' hS; have c0 := hS.2.cell 1 rfl; go_simp
       try simp only [Act.put, List.setIfInBounds_toArray, List.set_cons_zero, List.set_cons_succ]
       refine txt_light (.int .i64 (y - ay)) rfl rfl ?_ ?_
       ·intro w' hS; go_simp
       try simp only [Act.put, List.setIfInBounds_toArray, List.set_cons_zero, List.set_cons_succ]
       refine txt_call [.int .i64 (y - ay)] Tryz.f97 rfl rfl Tryz.func97 (by kernel_rfl) (by kernel_rfl) rfl ((HZ2.out _).mono ?_); rintro e w3 ⟨rfl, rfl⟩; refine ⟨_, rfl, ⟨bP.drew, bA.drew⟩, ?_⟩
       try simp only [Act.put, List.setIfInBounds_toArray, List.set_cons_zero, List.set_cons_succ]
       refine txt_heavy rfl rfl (fun K hK => ?_); go_step; have hb3 := Below.new w1.drew (.cells #[.int .u64 zx, .int .u64 zy] 70); have x1 := (Blk.drew bP).keep hb3; have x2 := (Blk.drew bA).keep hb3; have xo := World.ownsRow.below (w := w1.drew) hA hb3; have xr := Rd.lit w1.drew w1.heap.size [.int .u64 zx, .int .u64 zy] 70 rfl; have hB3 : Below w.heap.size w (w1.drew.alloc (.cells #[.int .u64 zx, .int .u64 zy] 70)) := (hbA.drew).alloc hbA.size _; have HOB := hA.lt; refine hK.out _ _ ⟨x1, x2⟩ ?_; clear hK K bP bA hA hb3 hbA
       try simp only [Act.put, List.setIfInBounds_toArray, List.set_cons_zero, List.set_cons_succ]
       refine txt_heavy rfl rfl (fun K hK => ?_); refine wp_app (.tmp 52) (.tmp 65) 151 rfl (w.heap.size + 1) 70 (.int .u64 0) 1 8 Tryz.underlying151 Tryz.infoU64 rfl (by decide) o1 A.length (A.map (Value.int .u64)) rfl xo (some ⟨w1.heap.size, 0, none⟩) 2 2 [.int .u64 zx, .int .u64 zy] rfl (fun h => by cases h) xr rfl (by simp [Value.oneCell']) (by omega) (by decide) (Nat.succ_le_of_lt x2.lt) ?_; intro v2 w2 hown2 hg2; have y1 := x1.grown hg2 (fun e => hobQ _ e.symm rfl); have y2 := x2.grown hg2 (fun e => by have := (HOB _ e.symm).1; omega); have hB4 := hB3.grown hg2 hB3.size (fun k hk => by have := (HOB k hk).1; omega); refine hK.out _ _ ⟨y1, y2⟩ ?_; clear hK K x1 x2 xo xr hB3 hg2
       try simp only [Act.put, List.setIfInBounds_toArray, List.set_cons_zero, List.set_cons_succ]
       refine txt_light (v2) rfl rfl ?_ ?_
       ·intro w' hS; go_simp
       try simp only [Act.put, List.setIfInBounds_toArray, List.set_cons_zero, List.set_cons_succ]
       refine txt_nil ?_; have e0 := y1.cell 0 rfl; have e1 := y1.cell 1 rfl; have g0 := y2.cell 0 rfl; have g1 := y2.cell 1 rfl; have q0 := y2.free 0; have q1 := y2.free 1; go_wp2; go_roundw
       case rel =>
        refine ⟨j + 1, ⟨x, y⟩, by omega, by go_num, HLA.out, HCP.out, ?_, (y2.set 0 (.int .i64 x)).set 1 (.int .i64 y), (hB4.set_at (Nat.le_refl _) _).set_at (Nat.le_refl _) _⟩; rw [HPRE.out, List.length_append, List.map_append]; refine (hown2.set_ne (p := ⟨w.heap.size, 0, none⟩) ?_ (.int .i64 x)).set_ne (p := ⟨w.heap.size, 1, none⟩) ?_ (.int .i64 y)
        ·exact fun h => by have := (hown2.lt _ h).1; simp at this; omega
        ·exact fun h => by have := (hown2.lt _ h).1; simp at this; omega
       case measure => simp [intOf]; omega
    ·obtain rfl : j = l.length := by omega
     have hT0 : (S ++ preN at' l l.length).length ≤ S.length + 3 * l.length := by have := preN_len at' l l.length; rw [List.length_append]; omega
     have HQ := Lib.hid hq'
     rcases hk with rfl | rfl
     ·have hstep : Hid (R = (S ++ preN at' l l.length) ++ numsF 2 q' ((xs.map (·.l)).drop (k + 1))) := Lib.hid (by
       rw [HRS.out, if_neg (by decide), HQ.out]; simp only [List.append_assoc, List.append_nil])
      clear HRS hq'; generalize S ++ preN at' l l.length = T0 at *; go_wp2; go_roundw
      case rel => exact ⟨k + 1, T0, q', by omega, by go_num, hstep.out, by omega, hqc, hA0, bA0, hbA0⟩
      case measure => simp [intOf]; omega
     ·have hstep : Hid (R = ((S ++ preN at' l l.length) ++ [15]) ++ numsF 3 q' ((xs.map (·.l)).drop (k + 1))) := Lib.hid (by
       rw [HRS.out, if_pos rfl, HQ.out]; simp only [List.append_assoc])
      clear HRS hq'; obtain ⟨T0, hT0e⟩ : ∃ T0, S ++ preN at' l l.length = T0 := ⟨_, rfl⟩; rw [hT0e] at hA0 hT0 hstep; clear hT0e; obtain ⟨o0, ho0⟩ : ∃ o0, u5 = o0 := ⟨_, rfl⟩; rw [ho0] at hA0 ⊢; obtain ⟨ti, hti, hz0, hz1, hz2⟩ := info_parts Tryz.infoU64
      go_wp2_with (at_builtin; go_must (refine wpList_append_own_at (wr.alloc (.cells #[.int .u64 15] 70)) rfl (.tmp 70) (.tmp 71) 151 rfl (w.heap.size + 1) 70 ti (.int .u64 0) 1 8 Tryz.underlying151 hti hz0 hz1 hz2 rfl (by decide) o0 T0.length (T0.map (Value.int .u64)) rfl (hA0.below (Below.new _ _)) ⟨wr.heap.size, 0, none⟩ 1 1 [.int .u64 15] rfl rfl (Rd.lit wr _ [.int .u64 15] 70 rfl).add (by simp [Value.oneCell']) (by unfold maxLen; omega) (by omega) (Nat.le_trans (Nat.succ_le_of_lt bA0.lt) (Below.new wr _).size) ?_); intro o1 w1 hA hg1 _ h5)
      have hob := hA0.lt; go_roundw
      case rel =>
       refine ⟨k + 1, T0 ++ [15], q', by omega, by go_num, hstep.out, by simp; omega, hqc, ?_, (bA0.alloc _).grown hg1 (fun e => by have := (hob _ e.symm).1; omega), (hbA0.alloc hbA0.size _).grown hg1 (Nat.le_trans hbA0.size (Below.new wr _).size) (fun k hk => by have := (hob k hk).1; omega)⟩; rw [List.length_append, List.map_append]; exact hA
      case measure => simp [intOf]; omega
  ·obtain rfl : k = xs.length := by omega
   have hfin : R = S := by rw [hRS, List.drop_of_length_le (by simp), numsF, List.append_nil]
   subst hfin; clear hRS; go_wp2; go_ret; exact ⟨_, rfl, hown.mono (by omega), hbl⟩
end Go.Proofs.YtjggoajfilnfjaaGreat
