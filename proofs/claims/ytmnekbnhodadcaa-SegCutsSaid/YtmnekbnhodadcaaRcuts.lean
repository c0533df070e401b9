/-
  graticuleref02.Cuts.
-/
import Derived.Test.YtmnekbnhodadcaaSputn
import Derived.Test.YtmnekbnhodadcaaRat
set_option linter.unusedVariables false
set_option linter.unusedSimpArgs false
set_option maxRecDepth 100000
namespace Go
open Go.RowKit Go.Srt
theorem fmX_ok (a b : Pt) (xs : List Int) : ∀ x ∈ xs.filterMap (cutX a b), CuOk x := by
  intro x hx
  obtain ⟨c, -, h⟩ := List.mem_filterMap.1 hx
  exact cutX_ok h
theorem pm_snoc {l2 l A : List Cu} {c : Cu} (h2 : l2.Perm (c :: l)) (h : l.Perm A) : l2.Perm (A ++ [c]) :=
  h2.trans ((List.perm_append_singleton c l).symm.trans (h.append_right [c]))
theorem own_split {w : World} {base n : Nat} {e : TypeId} {size : Nat} {v : Value} {xs : List Value} (h : w.ownsRow base e size v n xs) : (v = .slice none 0 0 ∧ n = 0) ∨ ∃ g cap, v = .slice (some ⟨g, 0, none⟩) n cap ∧ n ≤ cap ∧ cap ≤ maxLen ∧ Rd w (some ⟨g, 0, none⟩) xs := by
  have hf := h.form
  obtain ⟨h1, h2⟩ := h
  rcases h2 with ⟨rfl, rfl⟩ | ⟨g, cap, cur, rfl, -⟩
  · exact .inl ⟨rfl, rfl⟩
  · obtain ⟨a, c, e1, h3, h4, -, h5, -⟩ := hf
    cases e1
    exact .inr ⟨g, cap, rfl, h3, h4, h5⟩
theorem pts_drop (l : List Pt) (n : Nat) : (pts l).drop (n * 2) = pts (l.drop n) := by
  induction l generalizing n with
  | nil => simp [pts]
  | cons p l ih =>
    cases n with
    | zero => simp [pts]
    | succ n =>
      have := ih n
      simp only [pts, List.flatMap_cons, List.drop_succ_cons] at *
      rw [← this, show (n + 1) * 2 = 2 + n * 2 by omega, ← List.drop_drop]
      simp [Pt.cells]
def DedTo (A o : List Pt) (last : Pt) : Prop := (∃ pre, A = pre ++ [last]) ∧ ded A = o ++ [last]
theorem DedTo.one (p : Pt) : DedTo [p] [] p := ⟨⟨[], rfl⟩, rfl⟩
theorem DedTo.same {A o : List Pt} {last : Pt} (h : DedTo A o last) : DedTo (A ++ [last]) o last := by
  obtain ⟨⟨pre, rfl⟩, h⟩ := h
  exact ⟨⟨_, rfl⟩, by rw [ded_step o last last pre h, if_pos rfl]⟩
theorem DedTo.more {A o : List Pt} {last p : Pt} (h : DedTo A o last) (hp : p ≠ last) : DedTo (A ++ [p]) (o ++ [last]) p := by
  obtain ⟨⟨pre, rfl⟩, h⟩ := h
  exact ⟨⟨_, rfl⟩, by rw [ded_step o last p pre h, if_neg hp]⟩
theorem mid_row (o : List Pt) (last : Pt) (h : ¬ (o ++ [last]).length < 3) : ((o ++ [last]).drop 1).dropLast = o.drop 1 := by
  cases o with
  | nil => simp at h
  | cons x o => simp
end Go
namespace Go.Proofs.Ytmnekbnhodadcaa
open Go.RowKit Go.Srt
theorem rput_own (c : Cu) (hc : CuOk c) (base : Nat) (l : List Cu) (hok : ∀ x ∈ l, CuOk x) (hs : l.Pairwise (fun x y => cmpC x y ≤ 0)) (hl : l.length ≤ 1000) (o : Value) (w : World) (how : w.ownsRow base 57 4 o l.length (cus l)) :
    Calls Try.prog 24 #[o, c.val] w fun e w' => ∃ v l2, e = .returned v ∧ l2.Perm (c :: l) ∧ l2.Pairwise (fun x y => cmpC x y ≤ 0) ∧ w'.ownsRow w.heap.size 57 4 v l2.length (cus l2) ∧ Below w.heap.size w w' := by
  rcases own_split how with ⟨rfl, h0⟩ | ⟨g, cap, rfl, h1, h2, hr⟩
  · obtain rfl := List.length_eq_zero_iff.1 h0
    refine (rput_nil c hc w).mono ?_
    rintro e w' ⟨v, rfl, h3, h4⟩
    exact ⟨v, [c], rfl, List.Perm.refl _, List.pairwise_singleton _ _, h3, h4⟩
  · refine (rput_any c hc g cap l hok hl h1 h2 w hr).mono ?_
    rintro e w' ⟨v, k, rfl, hp, h3, h4⟩
    rw [← putRow_len c l k hp.1] at h3
    exact ⟨v, _, rfl, putRow_perm c l k, putRow_sorted hc hok hs hp, h3, h4⟩

set_option maxHeartbeats 3200000 in
theorem rcuts_any (a b : Pt) (ha : okPt a = true) (hb : okPt b = true) (xa ya : Option Addr) (xc yc : Nat) (xs ys : List Int) (hxl : xs.length ≤ 100) (hyl : ys.length ≤ 100) (w : World) (hx : Rd w xa (xs.map (Value.int .i64))) (hy : Rd w ya (ys.map (Value.int .i64))) :
    Calls Try.prog 13 #[a.val, b.val, .slice xa xs.length xc, .slice ya ys.length yc] w fun e w' => ∃ ad c, e = .returned (.slice ad (cutsF a b xs ys).length c) ∧ Rd w' ad (pts (cutsF a b xs ys)) ∧ Below w.heap.size w w' := by
  have HFN := Lib.hid (fun l2 h1 h2 => cutPts_of a b xs ys l2 h1 h2)
  have HTH := Lib.hid (ref_thin a b (cutPts a b xs ys))
  have HRES : Hid (thinP a b (cutPts a b xs ys) = cutsF a b xs ys) := Lib.hid rfl
  have HRO := Lib.hid (fun (c : Cu) (h : c ∈ cutRow a b xs ys) => cutRow_ok h)
  have HXO := Lib.hid (fmX_ok a b)
  have hma := rmay_any a
  have hmb := rmay_any b
  rw [ha] at hma
  rw [hb] at hmb
  have HAT := Lib.hid (fun c w => rat_any a b c ha hb w)
  have HAU := Lib.hid (fun c w => rat_any ⟨a.y, a.x⟩ ⟨b.y, b.x⟩ c (by rw [okPt_iff] at ha ⊢; exact ⟨ha.2, ha.1⟩) (by rw [okPt_iff] at hb ⊢; exact ⟨hb.2, hb.1⟩) w)
  generalize cutsF a b xs ys = RES at *
  rw [okPt_iff] at ha hb
  obtain ⟨ax, ay⟩ := a
  obtain ⟨bx, bY⟩ := b
  dsimp only [Pt.val] at *
  have HMA := Lib.hid hma
  have HMB := Lib.hid hmb
  clear hma hmb
  go_enter Try.func13, Try.ntmps13
  have ka := (Blk.lit w w.heap.size [.int .i64 ax, .int .i64 ay] 26 rfl).alloc (.cells #[.int .i64 bx, .int .i64 bY] 26)
  have kb := Blk.lit (w.alloc (.cells #[.int .i64 ax, .int .i64 ay] 26)) (w.heap.size + 1) [.int .i64 bx, .int .i64 bY] 26 (by simp)
  have hb0 := (Below.new w (.cells #[.int .i64 ax, .int .i64 ay] 26)).alloc (by simp) (.cells #[.int .i64 bx, .int .i64 bY] 26)
  have hz0 : w.heap.size + 2 ≤ ((w.alloc (.cells #[.int .i64 ax, .int .i64 ay] 26)).alloc (.cells #[.int .i64 bx, .int .i64 bY] 26)).heap.size := by simp
  obtain ⟨wA, hwA⟩ : ∃ wA, (w.alloc (.cells #[.int .i64 ax, .int .i64 ay] 26)).alloc (.cells #[.int .i64 bx, .int .i64 bY] 26) = wA := ⟨_, rfl⟩
  rw [hwA] at ka kb hb0 hz0
  go_step
  go_step
  rename_i K0 hK0
  replace hK0 := Lib.hid hK0
  go_wp2
  refine hK0.out _ _ ?_
  clear hK0
  try rw [hwA]
  clear hwA
  have p0 := ka.cell 0 rfl
  have p1 := ka.cell 1 rfl
  have q0 := kb.cell 0 rfl
  have q1 := kb.cell 1 rfl
  go_wp2_with fail
  refine (HMA.out _).mono ?_
  rintro e w1 ⟨rfl, hx1⟩
  clear p0 p1 q0 q1
  have ka := ka.keep hx1
  have kb := kb.keep hx1
  have hz1 := Nat.le_trans hz0 hx1.size
  have hb1 := hb0.trans (hx1.mono hb0.size)
  clear hx1 hz0 hb0
  have p0 := ka.cell 0 rfl
  have p1 := ka.cell 1 rfl
  have q0 := kb.cell 0 rfl
  have q1 := kb.cell 1 rfl
  go_wp2_with fail
  refine (HMB.out _).mono ?_
  rintro e w2 ⟨rfl, hx2⟩
  clear p0 p1 q0 q1
  have ka := ka.keep hx2
  have kb := kb.keep hx2
  have hz2 := Nat.le_trans hz1 hx2.size
  have hb2 := hb1.trans (hx2.mono hb1.size)
  clear hx2 hz1 hb1 HMA HMB
  go_wp2
  go_loopw [9, 10] (fun o i wr => ∃ (k : Nat) (l : List Cu), k ≤ xs.length ∧ i = .int .i64 k ∧ Hid (l.Perm ((xs.take (k)).filterMap (cutX ⟨ax, ay⟩ ⟨bx, bY⟩))) ∧ Hid (l.Pairwise (fun x y => cmpC x y ≤ 0)) ∧ l.length ≤ k ∧ wr.ownsRow (w.heap.size + 2) 57 4 o l.length (cus l) ∧ Blk wr w.heap.size [.int .i64 ax, .int .i64 ay] ∧ Blk wr (w.heap.size + 1) [.int .i64 bx, .int .i64 bY] ∧ w.heap.size + 2 ≤ wr.heap.size ∧ Below w.heap.size w wr) (fun _ i _ => xs.length - (intOf i).toNat)
  case atStart => exact ⟨0, [], Nat.zero_le _, rfl, Lib.hid (List.Perm.refl _), Lib.hid List.Pairwise.nil, Nat.le_refl _, World.ownsRow_nil _ _ _ _, ka, kb, hz2, hb2⟩
  case round =>
    obtain ⟨k, l, hk, rfl, HL, HSO, hll, hown, hba, hbb, hsz, hbl⟩ := hrel
    by_cases hlt : k < xs.length
    · obtain ⟨b1, off1, rfl, c0, hb1⟩ := (hx.keep hbl).at (i := k) (v := .int .i64 xs[k]) (by simp [hlt])
      have HXR := Lib.hid (fun W (h : Below wr.heap.size wr W) => (hx.keep (hbl.trans (h.mono hbl.size))).at (i := k) (v := .int .i64 xs[k]) (by simp [hlt]))
      have HST : Hid ((xs.take (k + 1)).filterMap (cutX ⟨ax, ay⟩ ⟨bx, bY⟩) = ((xs.take (k)).filterMap (cutX ⟨ax, ay⟩ ⟨bx, bY⟩)) ++ (cutX ⟨ax, ay⟩ ⟨bx, bY⟩ xs[k]).toList) := Lib.hid (by rw [List.take_succ_eq_append_getElem hlt, List.filterMap_append]; congr 1)
      have HLO : Hid (∀ x ∈ l, CuOk x) := Lib.hid (fun x hx => HXO.out _ x (HL.out.mem_iff.1 hx))
      generalize xs[k] = c at *
      have hat := HAT.out c
      have HBD := Lib.hid (fun h => at_bd (a := ⟨ax, ay⟩) (b := ⟨bx, bY⟩) (c := c) h)
      have HCX : Hid (cutX ⟨ax, ay⟩ ⟨bx, bY⟩ c = if (atF ⟨ax, ay⟩ ⟨bx, bY⟩ c).2 then some ⟨c, (atF ⟨ax, ay⟩ ⟨bx, bY⟩ c).1, ((c - ax).natAbs : Nat), ((bx - ax).natAbs : Nat)⟩ else none) := Lib.hid rfl
      have HCK := Lib.hid (fun k h => cutX_ok (a := ⟨ax, ay⟩) (b := ⟨bx, bY⟩) (c := c) (k := k) h)
      generalize cutX ⟨ax, ay⟩ ⟨bx, bY⟩ c = CX at *
      try dsimp only at hat
      generalize atF ⟨ax, ay⟩ ⟨bx, bY⟩ c = R at *
      obtain ⟨y, ok⟩ := R
      dsimp only [Pt.val] at hat
      have HAC := Lib.hid hat
      clear hat
      have p0 := hba.cell 0 rfl
      have p1 := hba.cell 1 rfl
      have q0 := hbb.cell 0 rfl
      have q1 := hbb.cell 1 rfl
      have hs := hbl.size
      go_wp2_with fail
      have hrr : Below wr.heap.size wr wr.drew := (Below.refl _ _).drew
      refine wp_region_lit_txt [0, 1, 2, 3, 4, 5, 6, 7, 8, 9, 10, 11, 13, 14, 15, 16, 17] (fun W => W = wr.drew) (by kernel_rfl) (by kernel_rfl) (by kernel_rfl) rfl ?_
      have p0 : wr.drew.cell? ⟨w.heap.size, 0, none⟩ = some (.int .i64 ax) := p0
      have p1 : wr.drew.cell? ⟨w.heap.size, 1, none⟩ = some (.int .i64 ay) := p1
      have q0 : wr.drew.cell? ⟨w.heap.size + 1, 0, none⟩ = some (.int .i64 bx) := q0
      have q1 : wr.drew.cell? ⟨w.heap.size + 1, 1, none⟩ = some (.int .i64 bY) := q1
      have c0 : wr.drew.cell? ⟨b1, off1 + k, none⟩ = some (.int .i64 c) := c0
      (refine txt_light ?_ rfl rfl ?_ ?_; rotate_left; · (intro w' hS; (try dsimp only at hS); go_simp; with_reducible rfl)); try simp only [Act.put, List.setIfInBounds_toArray, List.set_cons_zero, List.set_cons_succ]
      (refine txt_light ?_ rfl rfl ?_ ?_; rotate_left; · (intro w' hS; (try dsimp only at hS); go_simp; with_reducible rfl)); try simp only [Act.put, List.setIfInBounds_toArray, List.set_cons_zero, List.set_cons_succ]
      (refine txt_light ?_ rfl rfl ?_ ?_; rotate_left; · (intro w' hS; (try dsimp only at hS); go_simp; with_reducible rfl)); try simp only [Act.put, List.setIfInBounds_toArray, List.set_cons_zero, List.set_cons_succ]
      (refine txt_light ?_ rfl rfl ?_ ?_; rotate_left; · (intro w' hS; (try dsimp only at hS); go_simp; with_reducible rfl)); try simp only [Act.put, List.setIfInBounds_toArray, List.set_cons_zero, List.set_cons_succ]
      (refine txt_light ?_ rfl rfl ?_ ?_; rotate_left; · (intro w' hS; (try dsimp only at hS); go_simp; with_reducible rfl)); try simp only [Act.put, List.setIfInBounds_toArray, List.set_cons_zero, List.set_cons_succ]
      (refine txt_light ?_ rfl rfl ?_ ?_; rotate_left; · (intro w' hS; (try dsimp only at hS); go_simp; with_reducible rfl)); try simp only [Act.put, List.setIfInBounds_toArray, List.set_cons_zero, List.set_cons_succ]
      (refine txt_light ?_ rfl rfl ?_ ?_; rotate_left; · (intro w' hS; (try dsimp only at hS); go_simp; with_reducible rfl)); try simp only [Act.put, List.setIfInBounds_toArray, List.set_cons_zero, List.set_cons_succ]
      (refine txt_light ?_ rfl rfl ?_ ?_; rotate_left; · (intro w' hS; (try dsimp only at hS); go_simp; with_reducible rfl)); try simp only [Act.put, List.setIfInBounds_toArray, List.set_cons_zero, List.set_cons_succ]
      (refine txt_light ?_ rfl rfl ?_ ?_; rotate_left; · (intro w' hS; (try dsimp only at hS); go_simp; with_reducible rfl)); try simp only [Act.put, List.setIfInBounds_toArray, List.set_cons_zero, List.set_cons_succ]
      (refine txt_light ?_ rfl rfl ?_ ?_; rotate_left; · (intro w' hS; (try dsimp only at hS); go_simp; with_reducible rfl)); try simp only [Act.put, List.setIfInBounds_toArray, List.set_cons_zero, List.set_cons_succ]
      (refine txt_light ?_ rfl rfl ?_ ?_; rotate_left; · (intro w' hS; (try dsimp only at hS); go_simp; with_reducible rfl)); try simp only [Act.put, List.setIfInBounds_toArray, List.set_cons_zero, List.set_cons_succ]
      (refine txt_light ?_ rfl rfl ?_ ?_; rotate_left; · (intro w' hS; (try dsimp only at hS); go_simp; with_reducible rfl)); try simp only [Act.put, List.setIfInBounds_toArray, List.set_cons_zero, List.set_cons_succ]
      refine txt_call [.int .i64 ax, .int .i64 ay, .int .i64 bx, .int .i64 bY, .int .i64 c] Try.f12 rfl rfl Try.func12 (by kernel_rfl) (by kernel_rfl) rfl ((HAC.out _).mono ?_)
      rintro e w3 ⟨rfl, rfl⟩
      refine ⟨_, rfl, rfl, ?_⟩
      try simp only [Act.put, List.setIfInBounds_toArray, List.set_cons_zero, List.set_cons_succ]
      (refine txt_light ?_ rfl rfl ?_ ?_; rotate_left; · (intro w' hS; (try dsimp only at hS); go_simp; with_reducible rfl)); try simp only [Act.put, List.setIfInBounds_toArray, List.set_cons_zero, List.set_cons_succ]
      (refine txt_light ?_ rfl rfl ?_ ?_; rotate_left; · (intro w' hS; (try dsimp only at hS); go_simp; with_reducible rfl)); try simp only [Act.put, List.setIfInBounds_toArray, List.set_cons_zero, List.set_cons_succ]
      (refine txt_light ?_ rfl rfl ?_ ?_; rotate_left; · (intro w' hS; (try dsimp only at hS); go_simp; with_reducible rfl)); try simp only [Act.put, List.setIfInBounds_toArray, List.set_cons_zero, List.set_cons_succ]
      (refine txt_light ?_ rfl rfl ?_ ?_; rotate_left; · (intro w' hS; (try dsimp only at hS); go_simp; with_reducible rfl)); try simp only [Act.put, List.setIfInBounds_toArray, List.set_cons_zero, List.set_cons_succ]
      (refine txt_light ?_ rfl rfl ?_ ?_; rotate_left; · (intro w' hS; (try dsimp only at hS); go_simp; with_reducible rfl)); try simp only [Act.put, List.setIfInBounds_toArray, List.set_cons_zero, List.set_cons_succ]
      refine txt_nil ?_
      have hown1 := hown.below hrr
      have hba1 := hba.keep hrr
      have hbb1 := hbb.keep hrr
      have hbl1 := hbl.trans (hrr.mono hs)
      have hsz1 : w.heap.size + 2 ≤ wr.drew.heap.size := hsz
      have HXR1 := Lib.hid (fun W (h : Below wr.drew.heap.size wr.drew W) => HXR.out W (hrr.trans (h.mono hrr.size)))
      clear p0 p1 q0 q1 c0 hown hba hbb hbl hsz HXR hrr
      generalize wr.drew = wB at *
      cases ok with
      | false =>
        go_wp2
        exact ⟨⟨k + 1, l, by omega, val_int (by omega), Lib.hid (by rw [HST.out, HCX.out]; simpa using HL.out), HSO, by omega, hown1, hba1, hbb1, hsz1, hbl1⟩, by simp [intOf]; omega⟩
      | true =>
        have hbd := HBD.out rfl
        try dsimp only at hbd
        have HCX2 : Hid (CX = some ⟨c, y, ((c - ax).natAbs : Nat), ((bx - ax).natAbs : Nat)⟩) := Lib.hid HCX.out
        have hcok := HCK.out _ HCX2.out
        clear HCX HCK
        obtain ⟨D1, hD1⟩ : ∃ D, c - ax = D := ⟨_, rfl⟩
        obtain ⟨D2, hD2⟩ : ∃ D, bx - ax = D := ⟨_, rfl⟩
        have wd1 : IntKind.i64.wrap (c - ax) = D1 := by rw [hD1]; exact IntWalk.i64_in _ (by omega)
        have wd2 : IntKind.i64.wrap (bx - ax) = D2 := by rw [hD2]; exact IntWalk.i64_in _ (by omega)
        rw [hD1, hD2] at hcok HCX2
        have hf1 := rabs_ok D1 (by omega)
        have hf2 := rabs_ok D2 (by omega)
        obtain ⟨F1, hF1⟩ : ∃ F : Int, ((D1.natAbs : Nat) : Int) = F := ⟨_, rfl⟩
        obtain ⟨F2, hF2⟩ : ∃ F : Int, ((D2.natAbs : Nat) : Int) = F := ⟨_, rfl⟩
        rw [hF1, hF2] at HCX2 hcok
        rw [hF1] at hf1
        rw [hF2] at hf2
        have HF1 := Lib.hid hf1
        have HF2 := Lib.hid hf2
        have HPU := Lib.hid (fun o w h => rput_own ⟨c, y, F1, F2⟩ hcok (w.heap.size + 2) l HLO.out HSO.out (by omega) o w h)
        have HPU := Lib.hid (fun base o w h => rput_own ⟨c, y, F1, F2⟩ hcok base l HLO.out HSO.out (by omega) o w h)
        dsimp only [Cu.val] at HPU
        clear hf1 hf2 hF1 hF2 HBD HAC hbd hD1 hD2 hcok HLO HSO
        go_wp2_with fail
        have hrr : Below wB.heap.size wB wB.drew := (Below.refl _ _).drew
        refine wp_region_lit_txtZ (some 23) [0, 1, 2, 3, 4, 5, 6, 7, 8, 9, 10, 11, 12, 13, 15, 16, 17, 18, 19, 21] (fun W => Below wB.heap.size wB W) (by kernel_rfl) (by kernel_rfl) (by kernel_rfl) (by kernel_rfl) hrr ?_
        (refine txt_light ?_ rfl rfl ?_ ?_; rotate_left; · (intro w' hS; (try dsimp only at hS); go_simp; with_reducible rfl)); try simp only [Act.put, List.setIfInBounds_toArray, List.set_cons_zero, List.set_cons_succ]
        (refine txt_light ?_ rfl rfl ?_ ?_; rotate_left; · (intro w' hS; (try dsimp only at hS); go_simp; with_reducible rfl)); try simp only [Act.put, List.setIfInBounds_toArray, List.set_cons_zero, List.set_cons_succ]
        (refine txt_light ?_ rfl rfl ?_ ?_; rotate_left; · (intro w' hS; (try dsimp only at hS); go_simp; with_reducible rfl)); try simp only [Act.put, List.setIfInBounds_toArray, List.set_cons_zero, List.set_cons_succ]
        (refine txt_light ?_ rfl rfl ?_ ?_; rotate_left; · (intro w' hS; (try dsimp only at hS); go_simp; with_reducible rfl)); try simp only [Act.put, List.setIfInBounds_toArray, List.set_cons_zero, List.set_cons_succ]
        refine txt_light (.int .i64 c) rfl rfl ?_ ?_
        · intro w' hS
          obtain ⟨_, _, e1, c0, -⟩ := HXR1.out _ hS
          cases e1
          go_simp
        try simp only [Act.put, List.setIfInBounds_toArray, List.set_cons_zero, List.set_cons_succ]
        (refine txt_light ?_ rfl rfl ?_ ?_; rotate_left; · (intro w' hS; (try dsimp only at hS); go_simp; with_reducible rfl)); try simp only [Act.put, List.setIfInBounds_toArray, List.set_cons_zero, List.set_cons_succ]
        (refine txt_light ?_ rfl rfl ?_ ?_; rotate_left; · (intro w' hS; (try dsimp only at hS); go_simp; with_reducible rfl)); try simp only [Act.put, List.setIfInBounds_toArray, List.set_cons_zero, List.set_cons_succ]
        (refine txt_light ?_ rfl rfl ?_ ?_; rotate_left; · (intro w' hS; (try dsimp only at hS); go_simp; with_reducible rfl)); try simp only [Act.put, List.setIfInBounds_toArray, List.set_cons_zero, List.set_cons_succ]
        (refine txt_light ?_ rfl rfl ?_ ?_; rotate_left; · (intro w' hS; (try dsimp only at hS); go_simp; with_reducible rfl)); try simp only [Act.put, List.setIfInBounds_toArray, List.set_cons_zero, List.set_cons_succ]
        (refine txt_light ?_ rfl rfl ?_ ?_; rotate_left; · (intro w' hS; (try dsimp only at hS); go_simp; with_reducible rfl)); try simp only [Act.put, List.setIfInBounds_toArray, List.set_cons_zero, List.set_cons_succ]
        refine txt_light (.int .i64 c) rfl rfl ?_ ?_
        · intro w' hS
          obtain ⟨_, _, e1, c0, -⟩ := HXR1.out _ hS
          cases e1
          go_simp
        try simp only [Act.put, List.setIfInBounds_toArray, List.set_cons_zero, List.set_cons_succ]
        (refine txt_light ?_ rfl rfl ?_ ?_; rotate_left; · (intro w' hS; (try dsimp only at hS); go_simp; with_reducible rfl)); try simp only [Act.put, List.setIfInBounds_toArray, List.set_cons_zero, List.set_cons_succ]
        refine txt_light (.int .i64 ax) rfl rfl ?_ ?_
        · intro w' hS
          have c0 := (hba1.keep hS).cell 0 rfl
          go_simp
        try simp only [Act.put, List.setIfInBounds_toArray, List.set_cons_zero, List.set_cons_succ]
        (refine txt_light ?_ rfl rfl ?_ ?_; rotate_left; · (intro w' hS; (try dsimp only at hS); go_simp; with_reducible rfl)); try simp only [Act.put, List.setIfInBounds_toArray, List.set_cons_zero, List.set_cons_succ]
        refine txt_call [.int .i64 D1] Try.f25 rfl rfl Try.func25 (by kernel_rfl) (by kernel_rfl) rfl ((HF1.out _).mono ?_)
        rintro e w2 ⟨rfl, rfl⟩
        refine ⟨_, rfl, hrr, ?_⟩
        try simp only [Act.put, List.setIfInBounds_toArray, List.set_cons_zero, List.set_cons_succ]
        (refine txt_light ?_ rfl rfl ?_ ?_; rotate_left; · (intro w' hS; (try dsimp only at hS); go_simp; with_reducible rfl)); try simp only [Act.put, List.setIfInBounds_toArray, List.set_cons_zero, List.set_cons_succ]
        refine txt_light (.int .i64 bx) rfl rfl ?_ ?_
        · intro w' hS
          have c0 := (hbb1.keep hS).cell 0 rfl
          go_simp
        try simp only [Act.put, List.setIfInBounds_toArray, List.set_cons_zero, List.set_cons_succ]
        (refine txt_light ?_ rfl rfl ?_ ?_; rotate_left; · (intro w' hS; (try dsimp only at hS); go_simp; with_reducible rfl)); try simp only [Act.put, List.setIfInBounds_toArray, List.set_cons_zero, List.set_cons_succ]
        refine txt_light (.int .i64 ax) rfl rfl ?_ ?_
        · intro w' hS
          have c0 := (hba1.keep hS).cell 0 rfl
          go_simp
        try simp only [Act.put, List.setIfInBounds_toArray, List.set_cons_zero, List.set_cons_succ]
        (refine txt_light ?_ rfl rfl ?_ ?_; rotate_left; · (intro w' hS; (try dsimp only at hS); go_simp; with_reducible rfl)); try simp only [Act.put, List.setIfInBounds_toArray, List.set_cons_zero, List.set_cons_succ]
        refine txt_call [.int .i64 D2] Try.f25 rfl rfl Try.func25 (by kernel_rfl) (by kernel_rfl) rfl ((HF2.out _).mono ?_)
        rintro e w2 ⟨rfl, rfl⟩
        refine ⟨_, rfl, hrr, ?_⟩
        try simp only [Act.put, List.setIfInBounds_toArray, List.set_cons_zero, List.set_cons_succ]
        (refine txt_light ?_ rfl rfl ?_ ?_; rotate_left; · (intro w' hS; (try dsimp only at hS); go_simp; with_reducible rfl)); try simp only [Act.put, List.setIfInBounds_toArray, List.set_cons_zero, List.set_cons_succ]
        refine txt_call [_, .agg #[.int .i64 c, .int .i64 y, .int .i64 F1, .int .i64 F2]] Try.f24 rfl rfl Try.func24 (by kernel_rfl) (by kernel_rfl) rfl ((HPU.out _ _ _ (hown1.below hrr)).mono ?_)
        rintro e w3 ⟨v2, l2, rfl, hp2, hs2, hown2, hx2⟩
        have hs1 := hbl1.size
        have hrr2 := hrr.trans (hx2.mono hrr.size)
        refine ⟨_, rfl, hrr2, ?_⟩
        try simp only [Act.put, List.setIfInBounds_toArray, List.set_cons_zero, List.set_cons_succ]
        refine txt_last rfl rfl rfl (fun K hK => ?_)
        go_step
        refine hK.out _ _ ?_
        refine txt_nil ?_
        clear hK K
        have hba3 := hba1.keep hrr2
        have hbb3 := hbb1.keep hrr2
        have hbl3 := hbl1.trans (hrr2.mono hs1)
        have hown3 := hown2.mono (show w.heap.size + 2 ≤ wB.drew.heap.size from hsz1)
        have hsz3 := Nat.le_trans hsz1 hrr2.size
        have hpl : l2.length = l.length + 1 := by rw [hp2.length_eq]; rfl
        have HP2 := Lib.hid hp2
        have HS2 := Lib.hid hs2
        clear hba1 hbb1 hbl1 hown1 hown2 hrr hrr2 hx2 hp2 hs2 HXR1 hsz1 HF1 HF2 HPU
        go_wp2
        refine ⟨⟨k + 1, l2, by omega, by go_num, Lib.hid ?_, HS2, by omega, hown3, hba3, hbb3, hsz3, hbl3⟩, by simp [intOf]; omega⟩
        rw [HST.out, HCX2.out]
        exact pm_snoc HP2.out HL.out
    · obtain rfl : k = xs.length := by omega
      have hlt0 : ¬ (xs.length : Int) < xs.length := by omega
      rw [List.take_length] at HL
      clear hlt
      go_wp2
      go_loopw [9, 13] (fun o i wr => ∃ (k : Nat) (l : List Cu), k ≤ ys.length ∧ i = .int .i64 k ∧ Hid (l.Perm (xs.filterMap (cutX ⟨ax, ay⟩ ⟨bx, bY⟩) ++ (ys.take (k)).filterMap (cutY ⟨ax, ay⟩ ⟨bx, bY⟩))) ∧ Hid (l.Pairwise (fun x y => cmpC x y ≤ 0)) ∧ l.length ≤ xs.length + k ∧ wr.ownsRow (w.heap.size + 2) 57 4 o l.length (cus l) ∧ Blk wr w.heap.size [.int .i64 ax, .int .i64 ay] ∧ Blk wr (w.heap.size + 1) [.int .i64 bx, .int .i64 bY] ∧ w.heap.size + 2 ≤ wr.heap.size ∧ Below w.heap.size w wr) (fun _ i _ => ys.length - (intOf i).toNat)
      case atStart => exact ⟨0, l, Nat.zero_le _, rfl, Lib.hid (by rw [List.take_zero, List.filterMap_nil, List.append_nil]; exact HL.out), HSO, by omega, hown, hba, hbb, hsz, hbl⟩
      case round =>
        clear hown hba hbb hbl HL hll HSO hsz hk hlt0
        obtain ⟨k, l, hk, rfl, HL, HSO, hll, hown, hba, hbb, hsz, hbl⟩ := hrel
        by_cases hlt : k < ys.length
        · obtain ⟨b1, off1, rfl, c0, hb1⟩ := (hy.keep hbl).at (i := k) (v := .int .i64 ys[k]) (by simp [hlt])
          have HXR := Lib.hid (fun W (h : Below wr.heap.size wr W) => (hy.keep (hbl.trans (h.mono hbl.size))).at (i := k) (v := .int .i64 ys[k]) (by simp [hlt]))
          have HST : Hid (xs.filterMap (cutX ⟨ax, ay⟩ ⟨bx, bY⟩) ++ (ys.take (k + 1)).filterMap (cutY ⟨ax, ay⟩ ⟨bx, bY⟩) = (xs.filterMap (cutX ⟨ax, ay⟩ ⟨bx, bY⟩) ++ (ys.take (k)).filterMap (cutY ⟨ax, ay⟩ ⟨bx, bY⟩)) ++ (cutY ⟨ax, ay⟩ ⟨bx, bY⟩ ys[k]).toList) := Lib.hid (by rw [List.take_succ_eq_append_getElem hlt, List.filterMap_append, ← List.append_assoc]; congr 1)
          have HLO : Hid (∀ x ∈ l, CuOk x) := Lib.hid (fun x hx => HRO.out x (by
              unfold cutRow
              rcases List.mem_append.1 (HL.out.mem_iff.1 hx) with h | h
              · exact List.mem_append_left _ h
              · exact List.mem_append_right _ ((List.Sublist.filterMap _ (List.take_sublist _ _)).mem h)))
          generalize ys[k] = c at *
          have hat := HAU.out c
          have HBD := Lib.hid (fun h => at_bd (a := ⟨ay, ax⟩) (b := ⟨bY, bx⟩) (c := c) h)
          have HCX : Hid (cutY ⟨ax, ay⟩ ⟨bx, bY⟩ c = if (atF ⟨ay, ax⟩ ⟨bY, bx⟩ c).2 then some ⟨(atF ⟨ay, ax⟩ ⟨bY, bx⟩ c).1, c, ((c - ay).natAbs : Nat), ((bY - ay).natAbs : Nat)⟩ else none) := Lib.hid rfl
          have HCK := Lib.hid (fun k h => cutY_ok (a := ⟨ax, ay⟩) (b := ⟨bx, bY⟩) (c := c) (k := k) h)
          generalize cutY ⟨ax, ay⟩ ⟨bx, bY⟩ c = CX at *
          try dsimp only at hat
          generalize atF ⟨ay, ax⟩ ⟨bY, bx⟩ c = R at *
          obtain ⟨y, ok⟩ := R
          dsimp only [Pt.val] at hat
          have HAC := Lib.hid hat
          clear hat
          have p0 := hba.cell 0 rfl
          have p1 := hba.cell 1 rfl
          have q0 := hbb.cell 0 rfl
          have q1 := hbb.cell 1 rfl
          have hs := hbl.size
          go_wp2_with fail
          have hrr : Below wr.heap.size wr wr.drew := (Below.refl _ _).drew
          refine wp_region_lit_txt [0, 1, 2, 3, 4, 5, 6, 7, 8, 9, 10, 11, 13, 14, 15, 16, 17] (fun W => W = wr.drew) (by kernel_rfl) (by kernel_rfl) (by kernel_rfl) rfl ?_
          have p0 : wr.drew.cell? ⟨w.heap.size, 0, none⟩ = some (.int .i64 ax) := p0
          have p1 : wr.drew.cell? ⟨w.heap.size, 1, none⟩ = some (.int .i64 ay) := p1
          have q0 : wr.drew.cell? ⟨w.heap.size + 1, 0, none⟩ = some (.int .i64 bx) := q0
          have q1 : wr.drew.cell? ⟨w.heap.size + 1, 1, none⟩ = some (.int .i64 bY) := q1
          have c0 : wr.drew.cell? ⟨b1, off1 + k, none⟩ = some (.int .i64 c) := c0
          (refine txt_light ?_ rfl rfl ?_ ?_; rotate_left; · (intro w' hS; (try dsimp only at hS); go_simp; with_reducible rfl)); try simp only [Act.put, List.setIfInBounds_toArray, List.set_cons_zero, List.set_cons_succ]
          (refine txt_light ?_ rfl rfl ?_ ?_; rotate_left; · (intro w' hS; (try dsimp only at hS); go_simp; with_reducible rfl)); try simp only [Act.put, List.setIfInBounds_toArray, List.set_cons_zero, List.set_cons_succ]
          (refine txt_light ?_ rfl rfl ?_ ?_; rotate_left; · (intro w' hS; (try dsimp only at hS); go_simp; with_reducible rfl)); try simp only [Act.put, List.setIfInBounds_toArray, List.set_cons_zero, List.set_cons_succ]
          (refine txt_light ?_ rfl rfl ?_ ?_; rotate_left; · (intro w' hS; (try dsimp only at hS); go_simp; with_reducible rfl)); try simp only [Act.put, List.setIfInBounds_toArray, List.set_cons_zero, List.set_cons_succ]
          (refine txt_light ?_ rfl rfl ?_ ?_; rotate_left; · (intro w' hS; (try dsimp only at hS); go_simp; with_reducible rfl)); try simp only [Act.put, List.setIfInBounds_toArray, List.set_cons_zero, List.set_cons_succ]
          (refine txt_light ?_ rfl rfl ?_ ?_; rotate_left; · (intro w' hS; (try dsimp only at hS); go_simp; with_reducible rfl)); try simp only [Act.put, List.setIfInBounds_toArray, List.set_cons_zero, List.set_cons_succ]
          (refine txt_light ?_ rfl rfl ?_ ?_; rotate_left; · (intro w' hS; (try dsimp only at hS); go_simp; with_reducible rfl)); try simp only [Act.put, List.setIfInBounds_toArray, List.set_cons_zero, List.set_cons_succ]
          (refine txt_light ?_ rfl rfl ?_ ?_; rotate_left; · (intro w' hS; (try dsimp only at hS); go_simp; with_reducible rfl)); try simp only [Act.put, List.setIfInBounds_toArray, List.set_cons_zero, List.set_cons_succ]
          (refine txt_light ?_ rfl rfl ?_ ?_; rotate_left; · (intro w' hS; (try dsimp only at hS); go_simp; with_reducible rfl)); try simp only [Act.put, List.setIfInBounds_toArray, List.set_cons_zero, List.set_cons_succ]
          (refine txt_light ?_ rfl rfl ?_ ?_; rotate_left; · (intro w' hS; (try dsimp only at hS); go_simp; with_reducible rfl)); try simp only [Act.put, List.setIfInBounds_toArray, List.set_cons_zero, List.set_cons_succ]
          (refine txt_light ?_ rfl rfl ?_ ?_; rotate_left; · (intro w' hS; (try dsimp only at hS); go_simp; with_reducible rfl)); try simp only [Act.put, List.setIfInBounds_toArray, List.set_cons_zero, List.set_cons_succ]
          (refine txt_light ?_ rfl rfl ?_ ?_; rotate_left; · (intro w' hS; (try dsimp only at hS); go_simp; with_reducible rfl)); try simp only [Act.put, List.setIfInBounds_toArray, List.set_cons_zero, List.set_cons_succ]
          refine txt_call [.int .i64 ay, .int .i64 ax, .int .i64 bY, .int .i64 bx, .int .i64 c] Try.f12 rfl rfl Try.func12 (by kernel_rfl) (by kernel_rfl) rfl ((HAC.out _).mono ?_)
          rintro e w3 ⟨rfl, rfl⟩
          refine ⟨_, rfl, rfl, ?_⟩
          try simp only [Act.put, List.setIfInBounds_toArray, List.set_cons_zero, List.set_cons_succ]
          (refine txt_light ?_ rfl rfl ?_ ?_; rotate_left; · (intro w' hS; (try dsimp only at hS); go_simp; with_reducible rfl)); try simp only [Act.put, List.setIfInBounds_toArray, List.set_cons_zero, List.set_cons_succ]
          (refine txt_light ?_ rfl rfl ?_ ?_; rotate_left; · (intro w' hS; (try dsimp only at hS); go_simp; with_reducible rfl)); try simp only [Act.put, List.setIfInBounds_toArray, List.set_cons_zero, List.set_cons_succ]
          (refine txt_light ?_ rfl rfl ?_ ?_; rotate_left; · (intro w' hS; (try dsimp only at hS); go_simp; with_reducible rfl)); try simp only [Act.put, List.setIfInBounds_toArray, List.set_cons_zero, List.set_cons_succ]
          (refine txt_light ?_ rfl rfl ?_ ?_; rotate_left; · (intro w' hS; (try dsimp only at hS); go_simp; with_reducible rfl)); try simp only [Act.put, List.setIfInBounds_toArray, List.set_cons_zero, List.set_cons_succ]
          (refine txt_light ?_ rfl rfl ?_ ?_; rotate_left; · (intro w' hS; (try dsimp only at hS); go_simp; with_reducible rfl)); try simp only [Act.put, List.setIfInBounds_toArray, List.set_cons_zero, List.set_cons_succ]
          refine txt_nil ?_
          have hown1 := hown.below hrr
          have hba1 := hba.keep hrr
          have hbb1 := hbb.keep hrr
          have hbl1 := hbl.trans (hrr.mono hs)
          have hsz1 : w.heap.size + 2 ≤ wr.drew.heap.size := hsz
          have HXR1 := Lib.hid (fun W (h : Below wr.drew.heap.size wr.drew W) => HXR.out W (hrr.trans (h.mono hrr.size)))
          clear p0 p1 q0 q1 c0 hown hba hbb hbl hsz HXR hrr
          generalize wr.drew = wB at *
          cases ok with
          | false =>
            go_wp2
            exact ⟨⟨k + 1, l, by omega, val_int (by omega), Lib.hid (by rw [HST.out, HCX.out]; simpa using HL.out), HSO, by omega, hown1, hba1, hbb1, hsz1, hbl1⟩, by simp [intOf]; omega⟩
          | true =>
            have hbd := HBD.out rfl
            try dsimp only at hbd
            have HCX2 : Hid (CX = some ⟨y, c, ((c - ay).natAbs : Nat), ((bY - ay).natAbs : Nat)⟩) := Lib.hid HCX.out
            have hcok := HCK.out _ HCX2.out
            clear HCX HCK
            obtain ⟨D1, hD1⟩ : ∃ D, c - ay = D := ⟨_, rfl⟩
            obtain ⟨D2, hD2⟩ : ∃ D, bY - ay = D := ⟨_, rfl⟩
            have wd1 : IntKind.i64.wrap (c - ay) = D1 := by rw [hD1]; exact IntWalk.i64_in _ (by omega)
            have wd2 : IntKind.i64.wrap (bY - ay) = D2 := by rw [hD2]; exact IntWalk.i64_in _ (by omega)
            rw [hD1, hD2] at hcok HCX2
            have hf1 := rabs_ok D1 (by omega)
            have hf2 := rabs_ok D2 (by omega)
            obtain ⟨F1, hF1⟩ : ∃ F : Int, ((D1.natAbs : Nat) : Int) = F := ⟨_, rfl⟩
            obtain ⟨F2, hF2⟩ : ∃ F : Int, ((D2.natAbs : Nat) : Int) = F := ⟨_, rfl⟩
            rw [hF1, hF2] at HCX2 hcok
            rw [hF1] at hf1
            rw [hF2] at hf2
            have HF1 := Lib.hid hf1
            have HF2 := Lib.hid hf2
            have HPU := Lib.hid (fun o w h => rput_own ⟨y, c, F1, F2⟩ hcok (w.heap.size + 2) l HLO.out HSO.out (by omega) o w h)
            have HPU := Lib.hid (fun base o w h => rput_own ⟨y, c, F1, F2⟩ hcok base l HLO.out HSO.out (by omega) o w h)
            dsimp only [Cu.val] at HPU
            clear hf1 hf2 hF1 hF2 HBD HAC hbd hD1 hD2 hcok HLO HSO
            go_wp2_with fail
            have hrr : Below wB.heap.size wB wB.drew := (Below.refl _ _).drew
            refine wp_region_lit_txtZ (some 23) [0, 1, 2, 3, 4, 5, 6, 7, 8, 9, 10, 11, 12, 13, 15, 16, 17, 18, 19, 21] (fun W => Below wB.heap.size wB W) (by kernel_rfl) (by kernel_rfl) (by kernel_rfl) (by kernel_rfl) hrr ?_
            (refine txt_light ?_ rfl rfl ?_ ?_; rotate_left; · (intro w' hS; (try dsimp only at hS); go_simp; with_reducible rfl)); try simp only [Act.put, List.setIfInBounds_toArray, List.set_cons_zero, List.set_cons_succ]
            (refine txt_light ?_ rfl rfl ?_ ?_; rotate_left; · (intro w' hS; (try dsimp only at hS); go_simp; with_reducible rfl)); try simp only [Act.put, List.setIfInBounds_toArray, List.set_cons_zero, List.set_cons_succ]
            (refine txt_light ?_ rfl rfl ?_ ?_; rotate_left; · (intro w' hS; (try dsimp only at hS); go_simp; with_reducible rfl)); try simp only [Act.put, List.setIfInBounds_toArray, List.set_cons_zero, List.set_cons_succ]
            (refine txt_light ?_ rfl rfl ?_ ?_; rotate_left; · (intro w' hS; (try dsimp only at hS); go_simp; with_reducible rfl)); try simp only [Act.put, List.setIfInBounds_toArray, List.set_cons_zero, List.set_cons_succ]
            (refine txt_light ?_ rfl rfl ?_ ?_; rotate_left; · (intro w' hS; (try dsimp only at hS); go_simp; with_reducible rfl)); try simp only [Act.put, List.setIfInBounds_toArray, List.set_cons_zero, List.set_cons_succ]
            refine txt_light (.int .i64 c) rfl rfl ?_ ?_
            · intro w' hS
              obtain ⟨_, _, e1, c0, -⟩ := HXR1.out _ hS
              cases e1
              go_simp
            try simp only [Act.put, List.setIfInBounds_toArray, List.set_cons_zero, List.set_cons_succ]
            (refine txt_light ?_ rfl rfl ?_ ?_; rotate_left; · (intro w' hS; (try dsimp only at hS); go_simp; with_reducible rfl)); try simp only [Act.put, List.setIfInBounds_toArray, List.set_cons_zero, List.set_cons_succ]
            (refine txt_light ?_ rfl rfl ?_ ?_; rotate_left; · (intro w' hS; (try dsimp only at hS); go_simp; with_reducible rfl)); try simp only [Act.put, List.setIfInBounds_toArray, List.set_cons_zero, List.set_cons_succ]
            (refine txt_light ?_ rfl rfl ?_ ?_; rotate_left; · (intro w' hS; (try dsimp only at hS); go_simp; with_reducible rfl)); try simp only [Act.put, List.setIfInBounds_toArray, List.set_cons_zero, List.set_cons_succ]
            (refine txt_light ?_ rfl rfl ?_ ?_; rotate_left; · (intro w' hS; (try dsimp only at hS); go_simp; with_reducible rfl)); try simp only [Act.put, List.setIfInBounds_toArray, List.set_cons_zero, List.set_cons_succ]
            refine txt_light (.int .i64 c) rfl rfl ?_ ?_
            · intro w' hS
              obtain ⟨_, _, e1, c0, -⟩ := HXR1.out _ hS
              cases e1
              go_simp
            try simp only [Act.put, List.setIfInBounds_toArray, List.set_cons_zero, List.set_cons_succ]
            (refine txt_light ?_ rfl rfl ?_ ?_; rotate_left; · (intro w' hS; (try dsimp only at hS); go_simp; with_reducible rfl)); try simp only [Act.put, List.setIfInBounds_toArray, List.set_cons_zero, List.set_cons_succ]
            refine txt_light (.int .i64 ay) rfl rfl ?_ ?_
            · intro w' hS
              have c0 := (hba1.keep hS).cell 1 rfl
              go_simp
            try simp only [Act.put, List.setIfInBounds_toArray, List.set_cons_zero, List.set_cons_succ]
            (refine txt_light ?_ rfl rfl ?_ ?_; rotate_left; · (intro w' hS; (try dsimp only at hS); go_simp; with_reducible rfl)); try simp only [Act.put, List.setIfInBounds_toArray, List.set_cons_zero, List.set_cons_succ]
            refine txt_call [.int .i64 D1] Try.f25 rfl rfl Try.func25 (by kernel_rfl) (by kernel_rfl) rfl ((HF1.out _).mono ?_)
            rintro e w2 ⟨rfl, rfl⟩
            refine ⟨_, rfl, hrr, ?_⟩
            try simp only [Act.put, List.setIfInBounds_toArray, List.set_cons_zero, List.set_cons_succ]
            (refine txt_light ?_ rfl rfl ?_ ?_; rotate_left; · (intro w' hS; (try dsimp only at hS); go_simp; with_reducible rfl)); try simp only [Act.put, List.setIfInBounds_toArray, List.set_cons_zero, List.set_cons_succ]
            refine txt_light (.int .i64 bY) rfl rfl ?_ ?_
            · intro w' hS
              have c0 := (hbb1.keep hS).cell 1 rfl
              go_simp
            try simp only [Act.put, List.setIfInBounds_toArray, List.set_cons_zero, List.set_cons_succ]
            (refine txt_light ?_ rfl rfl ?_ ?_; rotate_left; · (intro w' hS; (try dsimp only at hS); go_simp; with_reducible rfl)); try simp only [Act.put, List.setIfInBounds_toArray, List.set_cons_zero, List.set_cons_succ]
            refine txt_light (.int .i64 ay) rfl rfl ?_ ?_
            · intro w' hS
              have c0 := (hba1.keep hS).cell 1 rfl
              go_simp
            try simp only [Act.put, List.setIfInBounds_toArray, List.set_cons_zero, List.set_cons_succ]
            (refine txt_light ?_ rfl rfl ?_ ?_; rotate_left; · (intro w' hS; (try dsimp only at hS); go_simp; with_reducible rfl)); try simp only [Act.put, List.setIfInBounds_toArray, List.set_cons_zero, List.set_cons_succ]
            refine txt_call [.int .i64 D2] Try.f25 rfl rfl Try.func25 (by kernel_rfl) (by kernel_rfl) rfl ((HF2.out _).mono ?_)
            rintro e w2 ⟨rfl, rfl⟩
            refine ⟨_, rfl, hrr, ?_⟩
            try simp only [Act.put, List.setIfInBounds_toArray, List.set_cons_zero, List.set_cons_succ]
            (refine txt_light ?_ rfl rfl ?_ ?_; rotate_left; · (intro w' hS; (try dsimp only at hS); go_simp; with_reducible rfl)); try simp only [Act.put, List.setIfInBounds_toArray, List.set_cons_zero, List.set_cons_succ]
            refine txt_call [_, .agg #[.int .i64 y, .int .i64 c, .int .i64 F1, .int .i64 F2]] Try.f24 rfl rfl Try.func24 (by kernel_rfl) (by kernel_rfl) rfl ((HPU.out _ _ _ (hown1.below hrr)).mono ?_)
            rintro e w3 ⟨v2, l2, rfl, hp2, hs2, hown2, hx2⟩
            have hs1 := hbl1.size
            have hrr2 := hrr.trans (hx2.mono hrr.size)
            refine ⟨_, rfl, hrr2, ?_⟩
            try simp only [Act.put, List.setIfInBounds_toArray, List.set_cons_zero, List.set_cons_succ]
            refine txt_last rfl rfl rfl (fun K hK => ?_)
            go_step
            refine hK.out _ _ ?_
            refine txt_nil ?_
            clear hK K
            have hba3 := hba1.keep hrr2
            have hbb3 := hbb1.keep hrr2
            have hbl3 := hbl1.trans (hrr2.mono hs1)
            have hown3 := hown2.mono (show w.heap.size + 2 ≤ wB.drew.heap.size from hsz1)
            have hsz3 := Nat.le_trans hsz1 hrr2.size
            have hpl : l2.length = l.length + 1 := by rw [hp2.length_eq]; rfl
            have HP2 := Lib.hid hp2
            have HS2 := Lib.hid hs2
            clear hba1 hbb1 hbl1 hown1 hown2 hrr hrr2 hx2 hp2 hs2 HXR1 hsz1 HF1 HF2 HPU
            go_wp2
            refine ⟨⟨k + 1, l2, by omega, by go_num, Lib.hid ?_, HS2, by omega, hown3, hba3, hbb3, hsz3, hbl3⟩, by simp [intOf]; omega⟩
            rw [HST.out, HCX2.out]
            exact pm_snoc HP2.out HL.out
        · obtain rfl : k = ys.length := by omega
          have hlt0 : ¬ (ys.length : Int) < ys.length := by omega
          rw [List.take_length] at HL
          have HPT := Lib.hid (HFN.out l HL.out (SR_of_pairwise HSO.out))
          have HD0 : Hid ((if (ded (⟨ax, ay⟩ :: l.map Cu.at ++ [⟨bx, bY⟩])).length < 3 then [] else ((ded (⟨ax, ay⟩ :: l.map Cu.at ++ [⟨bx, bY⟩])).drop 1).dropLast) = RES) := Lib.hid (by rw [HPT.out, HTH.out]; exact HRES.out)
          clear hlt HL HSO HFN HTH HRES HRO HXO HAT HAU HPT hx hy
          have hs := hbl.size
          obtain ⟨wC, hwC⟩ : ∃ x, x = wr := ⟨_, rfl⟩
          subst hwC
          obtain ⟨oa, oc, rfl, -, -, -, hrd, -⟩ := hown.form
          have hll2 : l.length ≤ 200 := by omega
          obtain ⟨L, hL⟩ : ∃ L, l.map Cu.at = L := ⟨_, rfl⟩
          have HLE : Hid (∀ i (h : i < l.length), L[i]? = some ⟨l[i].x, l[i].y⟩) := Lib.hid (fun i h => by rw [← hL, List.getElem?_map, List.getElem?_eq_getElem h]; rfl)
          have hLl : L.length = l.length := by rw [← hL, List.length_map]
          rw [hL] at HD0
          have p0 := hba.cell 0 rfl
          have p1 := hba.cell 1 rfl
          have q0 := hbb.cell 0 rfl
          have q1 := hbb.cell 1 rfl
          have hnew := (ownsRow_lit wC 26 2 1 (pts [⟨ax, ay⟩]) rfl (by decide))
          clear hown hL
          go_wp2
          clear p0 p1 q0 q1
          go_loopw [16, 17] (fun o i wq => ∃ k : Nat, k ≤ l.length ∧ i = .int .i64 k ∧ wq.ownsRow wC.heap.size 26 2 o (k + 1) (pts (⟨ax, ay⟩ :: L.take k)) ∧ Below wC.heap.size wC wq) (fun _ i _ => l.length - (intOf i).toNat)
          case atStart => exact ⟨0, Nat.zero_le _, rfl, hnew, Below.new _ _⟩
          case round =>
            clear hnew
            obtain ⟨k, hk, rfl, hown, hbq⟩ := hrel
            by_cases hlt : k < l.length
            · obtain ⟨b1, off1, rfl, -, c0, c1, c2, c3⟩ := (hrd.keep hbq).cu k hlt
              have HLK : Hid (L.take (k + 1) = L.take k ++ [⟨l[k].x, l[k].y⟩]) := Lib.hid (by
                have := HLE.out k hlt
                rw [List.getElem?_eq_some_iff] at this
                obtain ⟨h1, h2⟩ := this
                rw [List.take_succ_eq_append_getElem h1, h2])
              generalize l[k] = c at *
              obtain ⟨x, y, p, q⟩ := c
              dsimp only at c0 c1 c2 c3 HLK
              go_wp2_with (at_builtin; go_must (refine wpList_appLit' wC hbq rfl (.tmp 128) (.tmp 134) 34 rfl 26 (.agg #[.int .i64 0, .int .i64 0]) 2 16 Try.underlying34 Try.infoRP rfl (by decide) (by decide) u16 (k + 1) (pts (⟨ax, ay⟩ :: L.take k)) rfl hown 1 1 [.int .i64 x, .int .i64 y] _ rfl rfl (by simp [Value.oneCell']) (by omega) ?_); intro v2 w3 hown2 _ hbq2; clear hown hbq)
              refine ⟨⟨k + 1, by omega, by go_num, ?_, hbq2⟩, by simp [intOf]; omega⟩
              rw [HLK.out, ← List.cons_append, pts_append]
              exact hown2
            · obtain rfl : k = l.length := by omega
              have hlt1 : ¬ (l.length : Int) < l.length := by omega
              rw [← hLl, List.take_length] at hown
              clear hlt HLE hrd
              have q0 := (hbb.keep hbq).cell 0 rfl
              have q1 := (hbb.keep hbq).cell 1 rfl
              have hsq := hbq.size
              have hbx := hbl.trans (hbq.mono hs)
              clear hlt1
              rw [← hLl] at hll2 ⊢
              go_wp2_with (at_builtin; go_must (refine wpList_appLit' wC hbq rfl (.tmp 136) (.tmp 138) 34 rfl 26 (.agg #[.int .i64 0, .int .i64 0]) 2 16 Try.underlying34 Try.infoRP rfl (by decide) (by decide) u16 (L.length + 1) (pts (⟨ax, ay⟩ :: L)) rfl hown 1 1 [.int .i64 bx, .int .i64 bY] _ rfl rfl (by simp [Value.oneCell']) (by omega) ?_); intro v2 wE hown2 hgE hbE; clear hown; clear q0 q1; have p0 := (hba.keep hbE).cell 0 rfl; have p1 := (hba.keep hbE).cell 1 rfl)
              obtain ⟨ALL, hALL⟩ : ∃ ALL, (⟨ax, ay⟩ : Pt) :: L ++ [⟨bx, bY⟩] = ALL := ⟨_, rfl⟩
              have hAl : ALL.length = L.length + 2 := by rw [← hALL]; simp
              have HA1 : Hid (ALL.take 1 = [⟨ax, ay⟩]) := Lib.hid (by rw [← hALL]; rfl)
              have hpA : pts (⟨ax, ay⟩ :: L) ++ [.int .i64 bx, .int .i64 bY] = pts ALL := by rw [← hALL, pts_append]; rfl
              rw [hpA] at hown2
              rw [hALL] at HD0
              obtain ⟨pa, pc, rfl, -, -, -, hrA, -⟩ := hown2.form
              have hnew := (ownsRow_lit wE 26 2 1 (pts [⟨ax, ay⟩]) rfl (by decide))
              have hsE := hbE.size
              have hbx2 := hbl.trans (hbE.mono hs)
              clear hown2 hpA hALL hgE p0 p1 hbq hsq hbx hbl hba hbb
              have e2 : L.length + 1 + 1 = ALL.length := by omega
              rw [e2]
              have hAb : 1 ≤ ALL.length ∧ ALL.length ≤ 210 := by omega
              clear e2 hAl hLl hll2 hll hk hxl hyl
              go_loopw [18, 19] (fun o i wq => Hid (∃ (k n : Nat) (A : List Pt) (last : Pt), 1 ≤ k ∧ k ≤ ALL.length ∧ i = .int .i64 k ∧ DedTo (ALL.take k) A last ∧ A.length < k ∧ wq.ownsRow wE.heap.size 26 2 o (A.length + 1) (pts (A ++ [last])) ∧ Below wE.heap.size wE wq)) (fun _ i _ => ALL.length - (intOf i).toNat)
              case atStart => exact Lib.hid ⟨1, 0, [], ⟨ax, ay⟩, Nat.le_refl _, by omega, rfl, by rw [HA1.out]; exact DedTo.one _, by simp, hnew, Below.new _ _⟩
              case round =>
                clear hnew
                obtain ⟨k, n, A, last, hk1, hk, rfl, HDD, hAk, hown, hbq⟩ := hrel.out
                have HDD := Lib.hid HDD
                obtain ⟨va, vc, rfl, hvc, hvm, -, hrO, hvb⟩ := hown.form
                by_cases hlt : k < ALL.length
                · obtain ⟨b1, o1, rfl, hbb1, s0, s1⟩ := (hrA.keep hbq).pt k hlt
                  have hol : A.length < (A ++ [last]).length := by simp
                  obtain ⟨b2, o2, rfl, hbb2, t0, t1⟩ := hrO.pt A.length hol
                  have hgl : (A ++ [last])[A.length] = last := by simp
                  rw [hgl] at t0 t1
                  have HTK : Hid (ALL.take (k + 1) = ALL.take k ++ [ALL[k]]) := Lib.hid (List.take_succ_eq_append_getElem hlt)
                  clear hgl hol
                  generalize ALL[k] = q at *
                  obtain ⟨x, y⟩ := q
                  obtain ⟨lx, ly⟩ := last
                  dsimp only at s0 s1 t0 t1
                  have hw1 : IntKind.i64.wrap (((A.length + 1 : Nat) : Int) - 1) = (A.length : Int) := by
                    rw [show ((A.length + 1 : Nat) : Int) - 1 = (A.length : Int) by omega]; exact IntWalk.i64_in _ (by omega)
                  have hal : (A.length : Int) < ((A.length + 1 : Nat) : Int) := by omega
                  clear hrel
                  by_cases hxe : x = lx
                  · subst hxe
                    by_cases hye : y = ly
                    · subst hye
                      go_wp2
                      go_quiet (fail)
                      have hbq := below_drewN hbq nq
                      have hown : (wr.drewN nq).ownsRow wE.heap.size 26 2 (.slice (some ⟨b2, o2, none⟩) (A.length + 1) vc) (A.length + 1) (pts (A ++ [⟨x, y⟩])) := hown
                      clear t0 t1 s0 s1 hrO hvb
                      generalize wr.drewN nq = wF at *
                      go_wp2
                      refine ⟨Lib.hid ⟨k + 1, 0, A, ⟨x, y⟩, by omega, by omega, by go_num, ?_, by omega, hown, hbq⟩, by simp [intOf]; omega⟩
                      rw [HTK.out]; exact HDD.out.same
                    · have HNE : Hid ((⟨x, y⟩ : Pt) ≠ ⟨x, ly⟩) := Lib.hid (fun h => hye (congrArg Pt.y h))
                      go_wp2
                      go_quiet (fail)
                      have hbq := below_drewN hbq nq
                      have s0 : (wr.drewN nq).cell? ⟨b1, o1 + k * 2, none⟩ = some (.int .i64 x) := s0
                      have s1 : (wr.drewN nq).cell? ⟨b1, o1 + k * 2 + 1, none⟩ = some (.int .i64 y) := s1
                      have hown : (wr.drewN nq).ownsRow wE.heap.size 26 2 (.slice (some ⟨b2, o2, none⟩) (A.length + 1) vc) (A.length + 1) (pts (A ++ [⟨x, ly⟩])) := hown
                      clear t0 t1 hrO hvb
                      generalize wr.drewN nq = wF at *
                      go_wp2_with (at_builtin; go_must (refine wpList_appLit' wE hbq rfl (.tmp 159) (.tmp 164) 34 rfl 26 (.agg #[.int .i64 0, .int .i64 0]) 2 16 Try.underlying34 Try.infoRP rfl (by decide) (by decide) (.slice (some ⟨b2, o2, none⟩) (A.length + 1) vc) (A.length + 1) (pts (A ++ [⟨x, ly⟩])) rfl hown 1 1 [.int .i64 x, .int .i64 y] _ rfl rfl (by simp [Value.oneCell']) (by omega) ?_); intro v2 w3 hown2 _ hbq2; clear hown hbq)
                      go_roundw
                      case rel =>
                        refine Lib.hid ⟨k + 1, 0, A ++ [⟨x, ly⟩], ⟨x, y⟩, by omega, by omega, by go_num, ?_, by simp; omega, ?_, hbq2⟩
                        · rw [HTK.out]; exact HDD.out.more HNE.out
                        · rw [pts_append, List.length_append]; exact hown2
                      case measure => simp [intOf]; omega
                  · have HNE : Hid ((⟨x, y⟩ : Pt) ≠ ⟨lx, ly⟩) := Lib.hid (fun h => hxe (congrArg Pt.x h))
                    go_wp2
                    go_quiet (fail)
                    have hbq := below_drewN hbq nq
                    have s0 : (wr.drewN nq).cell? ⟨b1, o1 + k * 2, none⟩ = some (.int .i64 x) := s0
                    have s1 : (wr.drewN nq).cell? ⟨b1, o1 + k * 2 + 1, none⟩ = some (.int .i64 y) := s1
                    have hown : (wr.drewN nq).ownsRow wE.heap.size 26 2 (.slice (some ⟨b2, o2, none⟩) (A.length + 1) vc) (A.length + 1) (pts (A ++ [⟨lx, ly⟩])) := hown
                    clear t0 t1 hrO hvb
                    generalize wr.drewN nq = wF at *
                    go_wp2_with (at_builtin; go_must (refine wpList_appLit' wE hbq rfl (.tmp 159) (.tmp 164) 34 rfl 26 (.agg #[.int .i64 0, .int .i64 0]) 2 16 Try.underlying34 Try.infoRP rfl (by decide) (by decide) (.slice (some ⟨b2, o2, none⟩) (A.length + 1) vc) (A.length + 1) (pts (A ++ [⟨lx, ly⟩])) rfl hown 1 1 [.int .i64 x, .int .i64 y] _ rfl rfl (by simp [Value.oneCell']) (by omega) ?_); intro v2 w3 hown2 _ hbq2; clear hown hbq)
                    go_roundw
                    case rel =>
                      refine Lib.hid ⟨k + 1, 0, A ++ [⟨lx, ly⟩], ⟨x, y⟩, by omega, by omega, by go_num, ?_, by simp; omega, ?_, hbq2⟩
                      · rw [HTK.out]; exact HDD.out.more HNE.out
                      · rw [pts_append, List.length_append]; exact hown2
                    case measure => simp [intOf]; omega
                · obtain rfl : k = ALL.length := by omega
                  have hlt1 : ¬ (ALL.length : Int) < ALL.length := by omega
                  have hDA : ded ALL = A ++ [last] := by have := HDD.out.2; rwa [List.take_length] at this
                  rw [hDA] at HD0
                  have hbf := hbx2.trans (hbq.mono (Nat.le_trans hs hsE))
                  clear hrel hDA HDD HA1 hrA hbq hlt
                  by_cases h3 : A.length + 1 < 3
                  · have hR : RES = [] := by
                      have h := HD0.out
                      rw [if_pos (by simp; omega)] at h
                      exact h.symm
                    have h3i : ((A.length + 1 : Nat) : Int) < 3 := by omega
                    clear HD0 hown hrO hvb h3
                    subst hR
                    go_wp2
                    go_ret
                    first | exact ⟨none, ⟨0, rfl⟩, Rd.nil _ _, hbf⟩ | exact ⟨none, 0, rfl, Rd.nil _ _, hbf⟩
                  · have hR : RES = A.drop 1 := by
                      have h := HD0.out
                      rw [if_neg (by simp; omega), mid_row A last (by simp; omega)] at h
                      exact h.symm
                    have h3i : ¬ ((A.length + 1 : Nat) : Int) < 3 := by omega
                    obtain ⟨A2, hA2⟩ : ∃ n, A.length = n + 1 := ⟨A.length - 1, by omega⟩
                    have hRl : RES.length = A2 := by rw [hR]; simp; omega
                    rcases own_split hown with ⟨-, h0⟩ | ⟨g, cap, hve, hcc, -, hrg⟩
                    · omega
                    cases hve
                    have hrd2 : Rd wr (some ⟨g, 0 + 1 * 2, none⟩) (pts RES) := by
                      have h := (hrg.drop (1 * 2)).take (A2 * 2)
                      rw [pts_drop, pts_take] at h
                      rw [hR]
                      have e : ((A ++ [last]).drop 1).take A2 = A.drop 1 := by
                        rw [List.drop_append_of_le_length (by omega), List.take_append_of_le_length (by simp; omega), List.take_of_length_le (by simp; omega)]
                      rwa [e] at h
                    obtain ⟨M, hM⟩ : ∃ M, A.length + 1 = M := ⟨_, rfl⟩
                    obtain ⟨N, hN⟩ : ∃ N, A.length = N := ⟨_, rfl⟩
                    have hRl2 : RES.length = N - 1 := by omega
                    rw [hM] at h3i hcc hvc ⊢
                    have hw1 : IntKind.i64.wrap ((M : Int) - 1) = (N : Int) := by
                      rw [show ((M : Nat) : Int) - 1 = (N : Int) by omega]; exact IntWalk.i64_in _ (by unfold maxLen at hvm; omega)
                    have g1 : (1 : Int) ≤ (N : Int) := by omega
                    have g2 : (N : Int) ≤ (vc : Int) := by omega
                    have g3 : (1 : Int) < (vc : Int) := by omega
                    have HRL := Lib.hid hRl2
                    clear HD0 hown hrO hvb h3 hR hA2 hrg hRl hM hN hRl2 hAk hAb hvc hvm hcc
                    go_wp2
                    go_ret
                    refine ⟨some ⟨g, 2, none⟩, ?_⟩
                    rw [HRL.out]
                    first | exact ⟨⟨_, rfl⟩, hrd2, hbf⟩ | exact ⟨_, rfl, hrd2, hbf⟩
end Go.Proofs.Ytmnekbnhodadcaa
