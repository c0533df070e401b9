/-
  graticulelaw01.Of. graticuleref01.May. graticuleref03.Area, graticulelaw01.Ofs. graticulelaw11.Ofs, graticulelaw12.Of; the document's faces in memory. graticulelaw12.Ofs.
-/
import Derived.Test.YtebplobagmjfeaaPk1
import Derived.Test.YtebplobagmjfeaaProg
import Derived.BigRegion
import Derived.RegionTactic
import Derived.Maps.AppendAt
import Derived.Test.YtebplobagmjfeaaPk11
import Derived.Test.YtebplobagmjfeaaPk10
/- graticulelaw01.Of. -/
set_option linter.unusedVariables false
set_option linter.unusedSimpArgs false
namespace Go.Proofs.Ytebplobagmjfeaa
open Go.RowKit
theorem lof_any (p : Pt) (w : World) :
    Calls Try.prog 14 #[p.val] w fun e w' => e = .returned p.val ∧ Below w.heap.size w w' := by
  obtain ⟨x, y⟩ := p
  dsimp only [Pt.val]
  go_enter Try.func14, Try.ntmps14
  go_wp2
  refine bodyPost_ret (v := .agg #[.int .i64 x, .int .i64 y]) (by simp [results, Try.results14, go_sem]) rfl ⟨rfl, ((Below.new _ _).alloc (by simp) _)⟩
end Go.Proofs.Ytebplobagmjfeaa
/- graticuleref01.May. -/
set_option linter.unusedVariables false
set_option linter.unusedSimpArgs false
namespace Go.Proofs.Ytebplobagmjfeaa
open Go.RowKit
theorem Try.infoRP : (Try.prog.info? 40).map (fun i => (i.zero, i.size, i.bytes)) = some (some (.agg #[.int .i64 0, .int .i64 0]), 2, 16) := by kernel_rfl

set_option maxHeartbeats 800000 in
theorem rmay_any (p : Pt) (w : World) :
    Calls Try.prog 40 #[p.val] w fun e w' => e = .returned (.bool (okPt p)) ∧ Below w.heap.size w w' := by
  obtain ⟨x, y⟩ := p
  dsimp only [Pt.val]
  obtain ⟨B, hB⟩ : ∃ B, okPt ⟨x, y⟩ = B := ⟨_, rfl⟩
  have hC : Hid (B = (decide (-16777216 ≤ x) && decide (x ≤ 16777216) && decide (-16777216 ≤ y) && decide (y ≤ 16777216))) := by
    refine Lib.hid ?_
    rw [← hB]
    simp [okPt, Bool.and_assoc]
  rw [hB]
  clear hB
  go_enter Try.func40, Try.ntmps40
  go_wp2
  all_goals (go_ret; refine ⟨ret_bool ?_, Below.new _ _⟩; rw [hC.out]; clear hC; first | (simp_all; done) | (simp_all; intros; omega))

end Go.Proofs.Ytebplobagmjfeaa
/- graticuleref03.Area, graticulelaw01.Ofs. -/
set_option linter.unusedVariables false
set_option linter.unusedSimpArgs false
namespace Go.Proofs.Ytebplobagmjfeaa
open Go.RowKit
set_option maxHeartbeats 800000 in
theorem lofs_any (a : Option Addr) (c : Nat) (l : List Pt) (hl : l.length ≤ 1000000) (w : World) (hr : Rd w a (pts l)) :
    Calls Try.prog 35 #[.slice a l.length c] w fun e w' => ∃ v, e = .returned v ∧
      w'.ownsRow w.heap.size 40 2 v l.length (pts l) ∧ Below w.heap.size w w' := by
  go_enter Try.func35, Try.ntmps35
  go_wp2
  go_loopw [3, 4] (fun o i wr => ∃ k : Nat, k ≤ l.length ∧ i = .int .i64 k ∧ wr.ownsRow w.heap.size 40 2 o k (pts (l.take k)) ∧ Below w.heap.size w wr) (fun _ i _ => l.length - (intOf i).toNat)
  case atStart => exact ⟨0, Nat.zero_le _, rfl, World.ownsRow_nil _ _ _ _, Below.refl _ _⟩
  case round =>
    obtain ⟨k, hk, rfl, hown, hbl⟩ := hrel
    by_cases hlt : k < l.length
    · obtain ⟨b, off, rfl, hb, c0, c1⟩ := (hr.keep hbl).pt k hlt
      have hst : Hid (pts (l.take (k + 1)) = pts (l.take k) ++ (l[k]).cells) := by
        refine Lib.hid ?_
        rw [List.take_succ_eq_append_getElem hlt, pts_snoc]
      generalize l[k] = p at *
      have hm := lof_any p wr
      have HM := Lib.hid hm
      obtain ⟨x, y⟩ := p
      dsimp only [Pt.val] at c0 c1
      clear hm
      go_wp2_with fail
      refine HM.out.mono ?_
      rintro e w1 ⟨rfl, hb1⟩
      have hbl1 := hbl.trans (hb1.mono hbl.size)
      have hown1 := hown.below hb1
      dsimp only [Pt.val]
      clear hown HM hb1 hbl c0 c1
      obtain ⟨i0, hi, hz0, hz1, hz2⟩ := info_parts Try.infoRP
      go_wp2_with (at_builtin; go_must (refine wpList_append_own_at (w1.alloc (.cells #[.int .i64 x, .int .i64 y] 40)) rfl (.tmp 11) (.tmp 17) 70 rfl w.heap.size 40 i0 (.agg #[.int .i64 0, .int .i64 0]) 2 16 Try.underlying70 hi hz0 hz1 hz2 rfl (by decide) u3 k (pts (l.take k)) rfl (hown1.below (Below.new _ _)) ⟨w1.heap.size, 0, none⟩ 1 1 [.int .i64 x, .int .i64 y] rfl rfl (Rd.new w1 [.int .i64 x, .int .i64 y] 40).add (by simp [Value.oneCell']) (by unfold maxLen; omega) (by omega) (by have := hbl1.size; simp; omega) ?_); intro v2 w2 hown2 hg2 _ _; have hbl2 := (hbl1.alloc hbl1.size (.cells #[.int .i64 x, .int .i64 y] 40)).grown hg2 (by have := hbl1.size; simp; omega) (fun j hj => ((hown1.below (Below.new _ (.cells #[.int .i64 x, .int .i64 y] 40))).lt j hj).1); clear hown1 hbl1 hg2)
      go_roundw
      case rel =>
        refine ⟨k + 1, by omega, by go_num, ?_, hbl2⟩
        rw [hst.out]
        exact hown2
      case measure => simp [intOf]; omega
    · obtain rfl : k = l.length := by omega
      rw [List.take_length] at hown
      go_wp2
      go_ret
      exact ⟨_, rfl, hown, hbl⟩

set_option maxHeartbeats 1600000 in
theorem rarea3_any (a : Option Addr) (c : Nat) (L : List Pt) (hlen : L.length ≤ 1000) (hok : L.all okPt = true) (w : World) (hr : Rd w a (pts L)) :
    Calls Try.prog 59 #[.slice a L.length c] w fun e w' => e = .returned (.int .i64 (sho L)) ∧ Below w.heap.size w w' := by
  go_enter Try.func59, Try.ntmps59
  have HOK := Lib.hid hok
  clear hok
  go_wp2
  go_loopw [3, 4] (fun o i wr => ∃ k : Nat, k ≤ L.length ∧ i = .int .i64 k ∧ o = .int .i64 (sumTo (shoT L) k) ∧ Below w.heap.size w wr) (fun _ i _ => L.length - (intOf i).toNat)
  case atStart => exact ⟨0, Nat.zero_le _, rfl, rfl, Below.refl _ _⟩
  case round =>
    obtain ⟨k, hk, rfl, rfl, hbl⟩ := hrel
    by_cases hlt : k < L.length
    · obtain ⟨q, hq⟩ : ∃ q, (k + 1) % L.length = q := ⟨_, rfl⟩
      have hql : q < L.length := by rw [← hq]; exact Nat.mod_lt _ (by omega)
      obtain ⟨b, off, rfl, hb, c0, c1⟩ := (hr.keep hbl).pt k hlt
      obtain ⟨b', off', e, hb', d0, d1⟩ := (hr.keep hbl).pt q hql
      cases e
      have hsT : shoT L k = L[k].x * L[q].y - L[q].x * L[k].y := by
        unfold shoT
        rw [hq, getElem!_pos L k hlt, getElem!_pos L q hql]
      have hst : sumTo (shoT L) (k + 1) = sumTo (shoT L) k + (L[k].x * L[q].y - L[q].x * L[k].y) := by rw [← hsT]; rfl
      have hsb := sho_bd L HOK.out k hk
      have o1 := ok_get L HOK.out k hlt
      have o2 := ok_get L HOK.out q hql
      rw [getElem!_pos L k hlt, okPt_iff] at o1
      rw [getElem!_pos L q hql, okPt_iff] at o2
      have hrem : ((k : Int) + 1) % (L.length : Int) = (q : Int) := by rw [← hq]; simp
      have hrem2 : (IntKind.i64.wrap ((k : Int) + 1)).tmod (L.length : Int) = (q : Int) := by
        rw [IntWalk.i64_in _ (by omega), Int.tmod_eq_emod_of_nonneg (by omega)]
        exact hrem
      generalize L[k] = p1 at *
      generalize L[q] = p2 at *
      obtain ⟨x1, y1⟩ := p1
      obtain ⟨x2, y2⟩ := p2
      dsimp only at c0 c1 d0 d1 hst o1 o2
      have m1 := mul_bd x1 y2 16777216 16777216 (by omega) (by omega) (by omega) (by omega)
      have m2 := mul_bd x2 y1 16777216 16777216 (by omega) (by omega) (by omega) (by omega)
      simp only [Int.reduceMul, Int.reduceNeg] at m1 m2
      generalize sumTo (shoT L) k = F at *
      have hF64 : -562949953421312000 ≤ F ∧ F ≤ 562949953421312000 := by omega
      have HST := Lib.hid hst
      have q0 : (0 : Int) ≤ (q : Int) ∧ (q : Int) < (L.length : Int) := by omega
      have n1 : b ≠ wr.heap.size := by omega
      have n2 : b ≠ wr.heap.size + 1 := by omega
      have hnil : ¬ L = [] := by intro h; rw [h] at hlt; simp at hlt
      have hln : ¬ L.length = 0 := by omega
      have hs := hbl.size
      clear hst hsT hq hsb hr
      go_wp2
      go_region
      all_goals
        go_wp2
        go_roundw
        case rel =>
          refine ⟨k + 1, by omega, by go_num, ?_, (((hbl.alloc hs _).alloc (by simp; omega) _).drew)⟩
          rw [HST.out]
          first | rfl | (congr 1; omega)
        case measure => simp [intOf]; omega
    · obtain rfl : k = L.length := by omega
      go_wp2
      go_ret
      exact ⟨ret_int rfl, hbl⟩
end Go.Proofs.Ytebplobagmjfeaa
/- graticulelaw11.Ofs, graticulelaw12.Of; the document's faces in memory. -/
set_option linter.unusedVariables false
set_option linter.unusedSimpArgs false
set_option maxRecDepth 100000
namespace Go.Proofs.Ytebplobagmjfeaa
open Go.RowKit
/-- The document's ring, of our own making. -/
def PrT (W : World) (x : PC) : Prop := x.Ok W ∧ TypB W x.p 40
/-- The document's face, of our own making. -/
def RfT (W : World) (f : Fc) : Prop := f.Ok W ∧ TypB W f.ra 70 ∧ (∀ r ∈ f.rs, PrT W r) ∧ TypB W f.aa 110
def refS (T : TypeId) : Prop := T = 40 ∨ T = 70 ∨ T = 110
theorem PrT.keepS {S : TypeId → Prop} {A B : World} {x : PC} (h : PrT A x) (hS : S 40) (k : KeepS S A B) : PrT B x :=
  ⟨⟨h.1.1.keepS h.2 hS k, h.1.2⟩, h.2.keepS hS k⟩
theorem RfT.keepS {A B : World} {f : Fc} (h : RfT A f) (k : KeepS refS A B) : RfT B f := by
  obtain ⟨⟨h1, h2, h3⟩, t1, t2, t3⟩ := h
  exact ⟨⟨⟨h1.1.keepS t1 (.inr (.inl rfl)) k, h1.2⟩, fun r hr => ((t2 r hr).keepS (.inl rfl) k).1, ⟨h3.1.keepS t3 (.inr (.inr rfl)) k, h3.2⟩⟩, t1.keepS (.inr (.inl rfl)) k, fun r hr => (t2 r hr).keepS (.inl rfl) k, t3.keepS (.inr (.inr rfl)) k⟩
theorem RfT.keep {A B : World} {f : Fc} (h : RfT A f) (hb : Below A.heap.size A B) : RfT B f := h.keepS (KeepS.of_below hb)
theorem PrT.keep {A B : World} {f : PC} (h : PrT A f) (hb : Below A.heap.size A B) : PrT B f := h.keepS (S := refS) (.inl rfl) (KeepS.of_below hb)
theorem refS_face : ¬ refS 54 := by unfold refS; decide
theorem Try.infoRA : (Try.prog.info? 110).map (fun i => (i.zero, i.size, i.bytes)) = some (some (.agg #[.string ⟨#[]⟩, .int .i64 0, .string ⟨#[]⟩, .int .i64 0]), 4, 48) := by kernel_rfl
theorem Try.infoRF : (Try.prog.info? 54).map (fun i => (i.zero, i.size, i.bytes)) = some (some (.agg #[.slice none 0 0, .slice none 0 0]), 2, 48) := by kernel_rfl
theorem Try.infoRR : (Try.prog.info? 70).map (fun i => (i.zero, i.size, i.bytes)) = some (some (.slice none 0 0), 1, 24) := by kernel_rfl

set_option maxHeartbeats 3200000 in
theorem ofs11_any (a : Option Addr) (c : Nat) (l : List At) (hn : l.length ≤ 100000) (w : World) (hr : Rd w a (ats l)) :
    Calls Try.prog 34 #[.slice a l.length c] w fun e w' => ∃ v, e = .returned v ∧ w'.ownsRow w.heap.size 110 4 v l.length (ats l) ∧ Below w.heap.size w w' := by
  have HR := Lib.hid hr
  obtain ⟨N, hN⟩ : ∃ N, l.length = N := ⟨_, rfl⟩
  have HN := Lib.hid hN
  have HTA : Hid (ats (l.take N) = ats l) := Lib.hid (by rw [← hN, List.take_length])
  rw [hN] at hn ⊢
  clear hr hN
  go_enter Try.func34, Try.ntmps34
  go_wp2
  go_loopw [3, 4] (fun o i wr => ∃ k : Nat, k ≤ N ∧ i = .int .i64 k ∧ wr.ownsRow w.heap.size 110 4 o k (ats (l.take k)) ∧ Below w.heap.size w wr) (fun _ i _ => N - (intOf i).toNat)
  case atStart => exact ⟨0, by omega, rfl, World.ownsRow_nil _ _ _ _, Below.refl _ _⟩
  case round =>
    obtain ⟨i, hi, rfl, ho, hbl⟩ := hrel
    by_cases h1 : i < N
    · have h1' : (i : Int) < (N : Int) := by omega
      have hil : i < l.length := by rw [HN.out]; exact h1
      obtain ⟨b1, o1, rfl, hbb, c0, c1, c2, c3⟩ := HR.out.atr i hil
      have HSN : Hid (ats (l.take (i + 1)) = ats (l.take i) ++ [.string l[i].key, .int .i64 l[i].kind, .string l[i].text, .int .i64 l[i].n]) := Lib.hid (by
        rw [List.take_succ_eq_append_getElem hil, ats_snoc]; rfl)
      generalize l[i].key = K1 at *
      generalize l[i].kind = kd at *
      generalize l[i].text = T1 at *
      generalize l[i].n = nn at *
      go_wp2
      refine wp_region_lit_txt [0, 1, 2, 3, 4, 5, 6, 7, 8, 9, 10, 11, 14] (fun W => Below w.heap.size w W) (by kernel_rfl) (by kernel_rfl) (by kernel_rfl) (hbl.drew) ?_
      (refine txt_light ?_ rfl rfl ?_ ?_; rotate_left; · (intro w' hS; (try dsimp only at hS); go_simp; with_reducible rfl)); try simp only [Act.put, List.getElem_toArray, List.getElem_cons_succ, List.getElem_cons_zero, List.setIfInBounds_toArray, List.set_cons_zero, List.set_cons_succ]
      (refine txt_light ?_ rfl rfl ?_ ?_; rotate_left; · (intro w' hS; (try dsimp only at hS); go_simp; with_reducible rfl)); try simp only [Act.put, List.getElem_toArray, List.getElem_cons_succ, List.getElem_cons_zero, List.setIfInBounds_toArray, List.set_cons_zero, List.set_cons_succ]
      (refine txt_light ?_ rfl rfl ?_ ?_; rotate_left; · (intro w' hS; (try dsimp only at hS); go_simp; with_reducible rfl)); try simp only [Act.put, List.getElem_toArray, List.getElem_cons_succ, List.getElem_cons_zero, List.setIfInBounds_toArray, List.set_cons_zero, List.set_cons_succ]
      (refine txt_light ?_ rfl rfl ?_ ?_; rotate_left; · (intro w' hS; (try dsimp only at hS); go_simp; with_reducible rfl)); try simp only [Act.put, List.getElem_toArray, List.getElem_cons_succ, List.getElem_cons_zero, List.setIfInBounds_toArray, List.set_cons_zero, List.set_cons_succ]
      (refine txt_light ?_ rfl rfl ?_ ?_; rotate_left; · (intro w' hS; (try dsimp only at hS); go_simp; with_reducible rfl)); try simp only [Act.put, List.getElem_toArray, List.getElem_cons_succ, List.getElem_cons_zero, List.setIfInBounds_toArray, List.set_cons_zero, List.set_cons_succ]
      refine txt_light (.string K1) rfl rfl ?_ ?_
      · intro w' hS
        have e0 := (hS.cell (p := ⟨b1, o1 + i * 4, none⟩) hbb).trans c0
        clear hS
        go_simp
      try simp only [Act.put, List.getElem_toArray, List.getElem_cons_succ, List.getElem_cons_zero, List.setIfInBounds_toArray, List.set_cons_zero, List.set_cons_succ]
      (refine txt_light ?_ rfl rfl ?_ ?_; rotate_left; · (intro w' hS; (try dsimp only at hS); go_simp; with_reducible rfl)); try simp only [Act.put, List.getElem_toArray, List.getElem_cons_succ, List.getElem_cons_zero, List.setIfInBounds_toArray, List.set_cons_zero, List.set_cons_succ]
      (refine txt_light ?_ rfl rfl ?_ ?_; rotate_left; · (intro w' hS; (try dsimp only at hS); go_simp; with_reducible rfl)); try simp only [Act.put, List.getElem_toArray, List.getElem_cons_succ, List.getElem_cons_zero, List.setIfInBounds_toArray, List.set_cons_zero, List.set_cons_succ]
      (refine txt_light ?_ rfl rfl ?_ ?_; rotate_left; · (intro w' hS; (try dsimp only at hS); go_simp; with_reducible rfl)); try simp only [Act.put, List.getElem_toArray, List.getElem_cons_succ, List.getElem_cons_zero, List.setIfInBounds_toArray, List.set_cons_zero, List.set_cons_succ]
      (refine txt_light ?_ rfl rfl ?_ ?_; rotate_left; · (intro w' hS; (try dsimp only at hS); go_simp; with_reducible rfl)); try simp only [Act.put, List.getElem_toArray, List.getElem_cons_succ, List.getElem_cons_zero, List.setIfInBounds_toArray, List.set_cons_zero, List.set_cons_succ]
      refine txt_light (.agg #[.int .i64 kd, .string T1, .int .i64 nn]) rfl rfl ?_ ?_
      · intro w' hS
        have e1 := (hS.cell (p := ⟨b1, o1 + i * 4 + 1, none⟩) hbb).trans c1
        have e2 := (hS.cell (p := ⟨b1, o1 + i * 4 + 2, none⟩) hbb).trans c2
        have e3 := (hS.cell (p := ⟨b1, o1 + i * 4 + 3, none⟩) hbb).trans c3
        clear hS
        go_simp
      try simp only [Act.put, List.getElem_toArray, List.getElem_cons_succ, List.getElem_cons_zero, List.setIfInBounds_toArray, List.set_cons_zero, List.set_cons_succ]
      refine txt_light (.agg #[.string K1, .int .i64 kd, .string T1, .int .i64 nn]) rfl rfl ?_ ?_
      · intro w' hS
        clear hS
        go_simp
      try simp only [Act.put, List.getElem_toArray, List.getElem_cons_succ, List.getElem_cons_zero, List.setIfInBounds_toArray, List.set_cons_zero, List.set_cons_succ]
      have ho0 : wr.drew.ownsRow w.heap.size 110 4 u3 i (ats (l.take i)) := ho
      have hbd : Below w.heap.size w wr.drew := hbl.drew
      generalize wr.drew = W1 at *
      refine txt_heavy rfl rfl (fun K hK => ?_)
      go_step
      have ho2 := ho0.below (Below.new W1 (.cells #[.string K1, .int .i64 kd, .string T1, .int .i64 nn] 110))
      have hb2 := hbd.alloc hbd.size (.cells #[.string K1, .int .i64 kd, .string T1, .int .i64 nn] 110)
      have rd := Rd.lit W1 W1.heap.size [.string K1, .int .i64 kd, .string T1, .int .i64 nn] 110 rfl
      refine hK.out _ _ hb2 ?_
      clear hK K ho0 hbd
      generalize W1.alloc (.cells #[.string K1, .int .i64 kd, .string T1, .int .i64 nn] 110) = W2 at *
      try simp only [Act.put, List.getElem_toArray, List.getElem_cons_succ, List.getElem_cons_zero, List.setIfInBounds_toArray, List.set_cons_zero, List.set_cons_succ]
      refine txt_app w hb2 rfl rfl (.tmp 11) (.tmp 23) 52 rfl 110 (.agg #[.string ⟨#[]⟩, .int .i64 0, .string ⟨#[]⟩, .int .i64 0]) 4 48 Try.underlying52 Try.infoRA rfl (by decide) u3 i (ats (l.take i)) rfl ho2 (some ⟨W1.heap.size, 0, none⟩) 1 1 [.string K1, .int .i64 kd, .string T1, .int .i64 nn] rfl (fun h => by cases h) rd rfl (by simp [Value.oneCell']) (by omega) (by decide) ?_
      intro v3 W3 ho3 hg3 hb3
      refine ⟨hb3, ?_⟩
      try simp only [Act.put, List.getElem_toArray, List.getElem_cons_succ, List.getElem_cons_zero, List.setIfInBounds_toArray, List.set_cons_zero, List.set_cons_succ]
      (refine txt_light ?_ rfl rfl ?_ ?_; rotate_left; · (intro w' hS; (try dsimp only at hS); go_simp; with_reducible rfl)); try simp only [Act.put, List.getElem_toArray, List.getElem_cons_succ, List.getElem_cons_zero, List.setIfInBounds_toArray, List.set_cons_zero, List.set_cons_succ]
      refine txt_nil ?_
      clear c0 c1 c2 c3 ho2 hb2 hg3 rd
      have HO9 : Hid (W3.ownsRow w.heap.size 110 4 v3 (i + 1) (ats (l.take (i + 1)))) := Lib.hid (by rw [HSN.out]; exact ho3)
      clear ho3
      go_wp2
      exact ⟨⟨i + 1, by omega, by go_num, HO9.out, hb3⟩, by simp [intOf]; omega⟩
    · obtain rfl : i = N := by omega
      rw [HTA.out] at ho
      go_wp2
      go_ret
      exact ⟨u3, rfl, ho, hbl⟩

set_option maxHeartbeats 12800000 in
theorem of12_any (f : Fc) (hn : f.rs.length ≤ 1000) (hl : ∀ r ∈ f.rs, r.l.length ≤ 1000) (ha : f.ls.length ≤ 1000) (w : World) (hok : f.Ok w) :
    Calls Try.prog 17 #[f.val] w fun e w' => ∃ g : Fc, e = .returned g.val ∧ RfT w' g ∧ g.rings = f.rings ∧ g.ls = f.ls ∧ Below w.heap.size w w' := by
  have HLL := Lib.hid hl
  have HOK := Lib.hid hok
  obtain ⟨rs, ra, rc, ls, aa, ac⟩ := f
  dsimp only [Fc.val, Fc.rval, Fc.aval] at *
  have HCT := Lib.hid (fun (W : World) (h : Rd W aa (ats ls)) => ofs11_any aa ac ls (by omega) W h)
  obtain ⟨AN, hAN⟩ : ∃ A, ls.length = A := ⟨_, rfl⟩
  have HAN := Lib.hid hAN
  rw [hAN] at HCT ha ⊢
  obtain ⟨RN, hRN⟩ : ∃ R, rs.length = R := ⟨_, rfl⟩
  have HRN := Lib.hid hRN
  rw [hRN] at hn ⊢
  have HTA : Hid (rs.take RN = rs) := Lib.hid (by rw [← hRN, List.take_length])
  clear hRN hAN hok hl
  obtain ⟨B, hB⟩ : ∃ B, w.heap.size = B := ⟨_, rfl⟩
  have HBE := Lib.hid hB
  have k1 := (Blk.lit w B [.slice ra RN rc, .slice aa AN ac] 49 hB).alloc (.cells #[.slice none 0 0, .slice none 0 0] 54)
  have k2 := Blk.lit (w.alloc (.cells #[.slice ra RN rc, .slice aa AN ac] 49)) (B + 1) [.slice none 0 0, .slice none 0 0] 54 (by simp [hB])
  have hb0 := (Below.new w (.cells #[.slice ra RN rc, .slice aa AN ac] 49)).alloc (by simp) (.cells #[.slice none 0 0, .slice none 0 0] 54)
  have kT : ((w.alloc (.cells #[.slice ra RN rc, .slice aa AN ac] 49)).alloc (.cells #[.slice none 0 0, .slice none 0 0] 54)).heap[B + 1]? = some (.cells #[.slice none 0 0, .slice none 0 0] 54 (0, 0)) := by
    have := heap_alloc_new (w.alloc (.cells #[.slice ra RN rc, .slice aa AN ac] 49)) (.cells #[.slice none 0 0, .slice none 0 0] 54)
    rw [show (w.alloc (.cells #[.slice ra RN rc, .slice aa AN ac] 49)).heap.size = B + 1 by simp [hB]] at this
    exact this
  have x0 := k1.cell 0 rfl
  have x1 := k1.cell 1 rfl
  have HKT := Lib.hid kT
  clear kT
  go_enter Try.func17, Try.ntmps17
  go_wp2_with fail
  generalize hwA : (w.alloc (.cells #[.slice ra RN rc, .slice aa AN ac] 49)).alloc (.cells #[.slice none 0 0, .slice none 0 0] 54) = wA at *
  rw [hB] at hb0
  have hsA := k2.lt
  clear hwA hB
  refine (HCT.out _ (HOK.out.2.2.1.keep (hb0.mono (by rw [HBE.out]; exact Nat.le_refl _)))).mono ?_
  rintro e wB ⟨va, rfl, hoa, hxB⟩
  try dsimp only at hoa
  clear HCT
  obtain ⟨aa2, ac2, rfl, hac1, hac2, hac3, har, -⟩ := hoa.form
  have hat := TypB.of_owns hoa
  have HKT := Lib.hid ((hxB.block _ hsA).trans HKT.out)
  have k1 := k1.keep hxB
  have k2 := k2.keep hxB
  have hbB := hb0.trans (hxB.mono (by omega))
  clear x0 x1 hoa hxB hb0
  have k1' := k1.alloc (.cells #[.slice none 0 0, .slice aa2 AN ac2] 54)
  have k2' := k2.alloc (.cells #[.slice none 0 0, .slice aa2 AN ac2] 54)
  have kF : (wB.alloc (.cells #[.slice none 0 0, .slice aa2 AN ac2] 54)).heap[wB.heap.size]? = some (.cells #[.slice none 0 0, .slice aa2 AN ac2] 54 (0, 0)) := heap_alloc_new wB _
  have hbC := Below.new wB (.cells #[.slice none 0 0, .slice aa2 AN ac2] 54)
  have hsB : B + 1 < wB.heap.size := k2.lt
  have y0 := k1.cell 0 rfl
  have y1 := k2.cell 0 rfl
  have y2 := k2.cell 1 rfl
  have z0 := k2.free 0
  have z1 := k2.free 1
  go_wp2
  go_loopw [4] (fun k W => ∃ (j : Nat) (q : List PC) (v : Value), j ≤ RN ∧ k = .int .i64 j ∧ q.length = j ∧ Hid (q.map PC.l = (rs.take j).map PC.l) ∧ Hid (W.heap[wB.heap.size]? = some (.cells #[v, .slice aa2 AN ac2] 54 (0, 0))) ∧ W.ownsRow wB.heap.size 70 1 v j (rcs q) ∧ Hid (∀ r ∈ q, PrT W r) ∧ Below wB.heap.size wB W) (fun k _ => RN - (intOf k).toNat)
  case atStart => exact ⟨0, [], .slice none 0 0, by omega, rfl, rfl, Lib.hid rfl, Lib.hid kF, World.ownsRow_nil _ _ _ _, Lib.hid (by simp), hbC⟩
  case round =>
    obtain ⟨j, q, v, hj, rfl, hql, HSR, HKF, hor, HPT, hbr⟩ := hrel
    have e0 := (hbr.cell (p := ⟨B, 0, none⟩) (by dsimp only; omega)).trans y0
    by_cases r1 : j < RN
    · have r1' : (j : Int) < (RN : Int) := by omega
      have hjl : j < rs.length := by rw [HRN.out]; exact r1
      have hbw := hbB.trans (hbr.mono (by omega))
      have hbw' : Below w.heap.size w wr := hbw.mono (by rw [HBE.out]; exact Nat.le_refl _)
      obtain ⟨b2, o2, rfl, hb2, d0⟩ := HOK.out.1.1.rc j hjl
      rw [HBE.out] at hb2
      have HRO := Lib.hid ((HOK.out.2.1 _ (List.getElem_mem hjl)).keep hbw')
      have HRS : Hid ((rs.take (j + 1)).map PC.l = (rs.take j).map PC.l ++ [rs[j].l]) := Lib.hid (by
        rw [List.take_succ_eq_append_getElem hjl, List.map_append, List.map_singleton])
      have HLR := HLL.out _ (List.getElem_mem hjl)
      have HLO := Lib.hid (fun W (h : Rd W rs[j].p (pts rs[j].l)) => lofs_any rs[j].p rs[j].c rs[j].l (by omega) W h)
      generalize rs[j] = R at *
      obtain ⟨L, Rp, Rc⟩ := R
      obtain ⟨LN, hLN⟩ : ∃ R, L.length = R := ⟨_, rfl⟩
      have HLN := Lib.hid hLN
      dsimp only [PC.val] at d0 HLR HLO
      rw [hLN] at d0 HLR HLO
      clear hLN
      have d1 := (hbB.cell (p := ⟨b2, o2 + j, none⟩) hb2).trans d0
      have hb2w : b2 < wB.heap.size := by omega
      clear d0
      go_wp2
      refine wp_region_lit_txtZ (some 11) [0, 1, 2, 3, 4, 5, 6, 10] (fun W => W.heap[wB.heap.size]? = some (.cells #[v, .slice aa2 AN ac2] 54 (0, 0)) ∧ Below wB.heap.size wB W) (by kernel_rfl) (by kernel_rfl) (by kernel_rfl) (by kernel_rfl) ⟨HKF.out, hbr.drew⟩ ?_
      (refine txt_light ?_ rfl rfl ?_ ?_; rotate_left; · (intro w' hS; (try dsimp only at hS); go_simp; with_reducible rfl)); try simp only [Act.put, List.getElem_toArray, List.getElem_cons_succ, List.getElem_cons_zero, List.setIfInBounds_toArray, List.set_cons_zero, List.set_cons_succ]
      refine txt_light (v) rfl rfl ?_ ?_
      · intro w' hS
        obtain ⟨hS1, hS2⟩ := hS
        have c7 : w'.cell? ⟨wB.heap.size, 0, none⟩ = some v := by simp [World.cell?, hS1]
        clear hS1 hS2
        go_simp
      try simp only [Act.put, List.getElem_toArray, List.getElem_cons_succ, List.getElem_cons_zero, List.setIfInBounds_toArray, List.set_cons_zero, List.set_cons_succ]
      (refine txt_light ?_ rfl rfl ?_ ?_; rotate_left; · (intro w' hS; (try dsimp only at hS); go_simp; with_reducible rfl)); try simp only [Act.put, List.getElem_toArray, List.getElem_cons_succ, List.getElem_cons_zero, List.setIfInBounds_toArray, List.set_cons_zero, List.set_cons_succ]
      refine txt_light (.slice (some ⟨b2, o2, none⟩) RN rc) rfl rfl ?_ ?_
      · intro w' hS
        obtain ⟨hS1, hS2⟩ := hS
        have c7 := (hS2.cell (p := ⟨B, 0, none⟩) (by dsimp only; omega)).trans y0
        clear hS1 hS2
        go_simp
      try simp only [Act.put, List.getElem_toArray, List.getElem_cons_succ, List.getElem_cons_zero, List.setIfInBounds_toArray, List.set_cons_zero, List.set_cons_succ]
      (refine txt_light ?_ rfl rfl ?_ ?_; rotate_left; · (intro w' hS; (try dsimp only at hS); go_simp; with_reducible rfl)); try simp only [Act.put, List.getElem_toArray, List.getElem_cons_succ, List.getElem_cons_zero, List.setIfInBounds_toArray, List.set_cons_zero, List.set_cons_succ]
      (refine txt_light ?_ rfl rfl ?_ ?_; rotate_left; · (intro w' hS; (try dsimp only at hS); go_simp; with_reducible rfl)); try simp only [Act.put, List.getElem_toArray, List.getElem_cons_succ, List.getElem_cons_zero, List.setIfInBounds_toArray, List.set_cons_zero, List.set_cons_succ]
      refine txt_light (.slice Rp LN Rc) rfl rfl ?_ ?_
      · intro w' hS
        obtain ⟨hS1, hS2⟩ := hS
        have c7 := (hS2.cell (p := ⟨b2, o2 + j, none⟩) hb2w).trans d1
        clear hS1 hS2
        go_simp
      try simp only [Act.put, List.getElem_toArray, List.getElem_cons_succ, List.getElem_cons_zero, List.setIfInBounds_toArray, List.set_cons_zero, List.set_cons_succ]
      have HK0 : Hid (wr.drew.heap[wB.heap.size]? = some (.cells #[v, .slice aa2 AN ac2] 54 (0, 0))) := HKF
      have hbd : Below wB.heap.size wB wr.drew := hbr.drew
      have hor0 : wr.drew.ownsRow wB.heap.size 70 1 v j (rcs q) := hor
      have HP0 : Hid (∀ r ∈ q, PrT wr.drew r) := HPT
      have hrL : Rd wr.drew Rp (pts L) := HRO.out.1
      clear hor HKF HPT hbr e0
      generalize wr.drew = W0 at *
      refine txt_heavy rfl rfl (fun K hK => ?_)
      go_step
      refine (HLO.out W0 hrL).mono ?_
      rintro e W2 ⟨v2, rfl, ho2, hb2x⟩
      dsimp only
      have hlW : wB.heap.size < W0.heap.size := (Array.getElem?_eq_some_iff.1 HK0.out).1
      have HK2 : Hid (W2.heap[wB.heap.size]? = some (.cells #[v, .slice aa2 AN ac2] 54 (0, 0))) := Lib.hid ((hb2x.block _ hlW).trans HK0.out)
      have hbd2 := hbd.trans (hb2x.mono hbd.size)
      refine hK.out _ _ ⟨HK2.out, hbd2⟩ ?_
      have hor2 := hor0.below hb2x
      have HP2 : Hid (∀ r ∈ q, PrT W2 r) := Lib.hid (fun r hr => (HP0.out r hr).keep hb2x)
      obtain ⟨p2, k2, rfl, f1, f2, f3, f4, -⟩ := ho2.form
      have HPN : Hid (PrT W2 ⟨L, p2, k2⟩) := Lib.hid ⟨⟨f4, by dsimp only; rw [HLN.out]; exact f1, f2, f3⟩, TypB.of_owns ho2⟩
      clear hK K hrL hor0 HK0 HP0
      try simp only [Act.put, List.getElem_toArray, List.getElem_cons_succ, List.getElem_cons_zero, List.setIfInBounds_toArray, List.set_cons_zero, List.set_cons_succ]
      refine txt_heavy rfl rfl (fun K hK => ?_)
      go_step
      have hlX : wB.heap.size < W2.heap.size := (Array.getElem?_eq_some_iff.1 HK2.out).1
      have hb3 := hbd2.alloc (by omega) (.cells #[.slice p2 LN k2] 70)
      have hx3 := Below.new W2 (.cells #[.slice p2 LN k2] 70)
      have k3 : (W2.alloc (.cells #[.slice p2 LN k2] 70)).heap[wB.heap.size]? = some (.cells #[v, .slice aa2 AN ac2] 54 (0, 0)) := (Below.heap_alloc _ _ _ hlX).trans HK2.out
      have rd := Rd.lit W2 W2.heap.size [.slice p2 LN k2] 70 rfl
      have hor3 := hor2.below hx3
      have HP3 : Hid (∀ r ∈ q, PrT (W2.alloc (.cells #[.slice p2 LN k2] 70)) r) := Lib.hid (fun r hr => (HP2.out r hr).keep hx3)
      have HPN3 := Lib.hid (HPN.out.keep hx3)
      have HK3 := Lib.hid k3
      refine hK.out _ _ ⟨k3, hb3⟩ ?_
      clear hK K k3 hx3 ho2 hor2 HP2 HPN HK2 hbd2 hb2x hlX
      generalize W2.alloc (.cells #[.slice p2 LN k2] 70) = W3 at *
      try simp only [Act.put, List.getElem_toArray, List.getElem_cons_succ, List.getElem_cons_zero, List.setIfInBounds_toArray, List.set_cons_zero, List.set_cons_succ]
      refine txt_app wB hb3 rfl rfl (.tmp 17) (.tmp 24) 51 rfl 70 (.slice none 0 0) 1 24 Try.underlying51 Try.infoRR rfl (by decide) v j (rcs q) rfl hor3 (some ⟨W2.heap.size, 0, none⟩) 1 1 [.slice p2 LN k2] rfl (fun h => by cases h) rd rfl (by simp [Value.oneCell']) (by omega) (by decide) ?_
      intro v3 W4 ho4 hg4 hb4
      have HK4 : Hid (W4.heap[wB.heap.size]? = some (.cells #[v, .slice aa2 AN ac2] 54 (0, 0))) := Lib.hid (((KeepS.of_row (S := fun T => T = 54) hor3 (by decide) hg4).2 _ _ _ _ HK3.out rfl).trans HK3.out)
      have HKS := Lib.hid (KeepS.of_row (S := fun T => T = 40) hor3 (by decide) hg4)
      have HP4 : Hid (∀ r ∈ q ++ [⟨L, p2, k2⟩], PrT W4 r) := Lib.hid (fun r hr => by
        rcases List.mem_append.1 hr with hr | hr
        · exact (HP3.out r hr).keepS (S := fun T => T = 40) rfl HKS.out
        · rw [List.mem_singleton.1 hr]; exact HPN3.out.keepS (S := fun T => T = 40) rfl HKS.out)
      have hqc : rcs q ++ [.slice p2 LN k2] = rcs (q ++ [⟨L, p2, k2⟩]) := by rw [rcs_snoc]; simp [PC.val, HLN.out]
      rw [hqc] at ho4
      obtain ⟨p3, k3, rfl, -⟩ := ho4.form
      refine ⟨⟨HK4.out, hb4⟩, ?_⟩
      clear hor3 HP3 HPN3 HK3 HKS hg4 rd hb3 hqc
      try simp only [Act.put, List.getElem_toArray, List.getElem_cons_succ, List.getElem_cons_zero, List.setIfInBounds_toArray, List.set_cons_zero, List.set_cons_succ]
      (refine txt_light ?_ rfl rfl ?_ ?_; rotate_left; · (intro w' hS; (try dsimp only at hS); go_simp; with_reducible rfl)); try simp only [Act.put, List.getElem_toArray, List.getElem_cons_succ, List.getElem_cons_zero, List.setIfInBounds_toArray, List.set_cons_zero, List.set_cons_succ]
      refine txt_last rfl rfl rfl (fun K hK => ?_)
      have c7 : W4.cell? ⟨wB.heap.size, 0, none⟩ = some v := by simp [World.cell?, HK4.out]
      have c8 : W4.frozen? ⟨wB.heap.size, 0, none⟩ = false := by simp [World.frozen?, HK4.out]
      go_step
      refine hK.out _ _ ?_
      refine txt_nil ?_
      have HK5 : Hid ((W4.setCell ⟨wB.heap.size, 0, none⟩ (.slice p3 (j + 1) k3)).heap[wB.heap.size]? = some (.cells #[.slice p3 (j + 1) k3, .slice aa2 AN ac2] 54 (0, 0))) := Lib.hid (blkT_set (vs := [v, .slice aa2 AN ac2]) HK4.out 0 _)
      have ho5 := ownsRow_box ho4 HK4.out (by decide) 0 (.slice p3 (j + 1) k3)
      have HP5 : Hid (∀ r ∈ q ++ [⟨L, p2, k2⟩], PrT (W4.setCell ⟨wB.heap.size, 0, none⟩ (.slice p3 (j + 1) k3)) r) := Lib.hid (fun r hr => (HP4.out r hr).keepS (S := fun T => T = 40) rfl (KeepS.store HK4.out (by decide) _))
      have hb5 := hb4.setCell (p := ⟨wB.heap.size, 0, none⟩) (Nat.le_refl _) (.slice p3 (j + 1) k3)
      have HSQ : Hid ((q ++ [(⟨L, p2, k2⟩ : PC)]).map PC.l = (rs.take (j + 1)).map PC.l) := Lib.hid (by
        rw [HRS.out, List.map_append, HSR.out]; rfl)
      have hql5 : (q ++ [(⟨L, p2, k2⟩ : PC)]).length = j + 1 := by simp [hql]
      clear hK K c7 c8 ho4 HP4 hb4 HK4 HRS HSR HRO HLN f1 f2 f3 f4 hbd
      generalize q ++ [(⟨L, p2, k2⟩ : PC)] = q5 at *
      generalize W4.setCell ⟨wB.heap.size, 0, none⟩ (.slice p3 (j + 1) k3) = W5 at *
      go_wp2
      exact ⟨⟨j + 1, q5, .slice p3 (j + 1) k3, by omega, by go_num, hql5, HSQ, HK5, ho5, HP5, hb5⟩, by simp [intOf]; omega⟩
    · have r1' : ¬ (j : Int) < (RN : Int) := by omega
      have hjN : j = RN := by omega
      subst hjN
      obtain ⟨p3, k3, rfl, g1, g2, g3, g4, -⟩ := hor.form
      have e6 : wr.cell? ⟨wB.heap.size, 0, none⟩ = some (.slice p3 j k3) := by simp [World.cell?, HKF.out]
      have e7 : wr.cell? ⟨wB.heap.size, 0 + 1, none⟩ = some (.slice aa2 AN ac2) := by simp [World.cell?, HKF.out]
      have k3' := k2.keep (hbr.mono (Nat.le_refl _))
      have y1 := k3'.cell 0 rfl
      have y2 := k3'.cell 1 rfl
      have z0 := k3'.free 0
      have z1 := k3'.free 1
      have hbw := hbB.trans (hbr.mono (by omega))
      have HKT := Lib.hid ((hbr.block _ hsB).trans HKT.out)
      have s1 := (k3'.set 0 (.slice p3 j k3)).set 1 (.slice aa2 AN ac2)
      have s2 := s1.cell 0 rfl
      have s3 := s1.cell 1 rfl
      have hbZ := (hbw.setCell (p := ⟨B + 1, 0, none⟩) (by dsimp only; omega) (.slice p3 j k3)).setCell (p := ⟨B + 1, 1, none⟩) (by dsimp only; omega) (.slice aa2 AN ac2)
      have hat2 := hat.keepS (S := fun _ => True) trivial (KeepS.of_below hbr)
      have har2 := har.keep hbr
      have HRF : Hid (RfT wr ⟨q, p3, k3, ls, aa2, ac2⟩) := Lib.hid ⟨⟨⟨g4, by dsimp only; rw [hql]; exact g1, g2, g3⟩, fun r hr => (HPT.out r hr).1, ⟨har2, by dsimp only; rw [HAN.out]; exact hac1, hac2, hac3⟩⟩, TypB.of_owns hor, HPT.out, hat2⟩
      have HRF2 := Lib.hid (HRF.out.keepS (KeepS.store (p := ⟨B + 1, 0, none⟩) HKT.out refS_face (.slice p3 j k3)))
      have HRF3 := Lib.hid (HRF2.out.keepS (KeepS.store (p := ⟨B + 1, 1, none⟩) (blkT_set (vs := [.slice none 0 0, .slice none 0 0]) HKT.out 0 (.slice p3 j k3)) refS_face (.slice aa2 AN ac2)))
      have HRE : Hid (q.map PC.l = rs.map PC.l) := Lib.hid (by rw [HSR.out, HTA.out])
      clear hor HPT har hat hat2 har2 HRF HRF2 HKT k3' s1 hbr g1 g2 g3 g4 HSR
      go_wp2
      generalize (wr.setCell ⟨B + 1, 0, none⟩ (.slice p3 j k3)).setCell ⟨B + 1, 1, none⟩ (.slice aa2 AN ac2) = Z at *
      refine bodyPost_ret (v := .agg #[.slice p3 j k3, .slice aa2 AN ac2]) (by simp [results, Try.results17, go_sem, s2, s3]) rfl ⟨⟨q, p3, k3, ls, aa2, ac2⟩, by dsimp only; rw [hql, HAN.out], HRF3.out, HRE.out, rfl, by rw [HBE.out]; exact hbZ⟩
end Go.Proofs.Ytebplobagmjfeaa
/- graticulelaw12.Ofs. -/
set_option linter.unusedVariables false
set_option linter.unusedSimpArgs false
set_option maxRecDepth 100000
namespace Go.Proofs.Ytebplobagmjfeaa
open Go.RowKit

set_option maxHeartbeats 6400000 in
theorem ofs12_any (a : Option Addr) (c : Nat) (l : List Fc) (hn : l.length ≤ 1000) (hl : ∀ f ∈ l, f.rs.length ≤ 1000 ∧ f.ls.length ≤ 1000 ∧ ∀ r ∈ f.rs, r.l.length ≤ 1000) (w : World) (hr : Rd w a (fcs l)) (hok : ∀ f ∈ l, f.Ok w) :
    Calls Try.prog 7 #[.slice a l.length c] w fun e w' => ∃ (gs : List Fc) (v : Value), e = .returned v ∧ w'.ownsRow w.heap.size 54 2 v gs.length (fcs gs) ∧ (∀ g ∈ gs, RfT w' g) ∧ gs.map Fc.plain = l.map Fc.plain ∧ Below w.heap.size w w' := by
  have HR := Lib.hid hr
  have HOF := Lib.hid (fun (f : Fc) (hf : f ∈ l) W (h : Below w.heap.size w W) => of12_any f (hl f hf).1 (hl f hf).2.2 (hl f hf).2.1 W ((hok f hf).keep h))
  obtain ⟨N, hN⟩ : ∃ N, l.length = N := ⟨_, rfl⟩
  have HN := Lib.hid hN
  have HTA : Hid ((l.take N).map Fc.plain = l.map Fc.plain) := Lib.hid (by rw [← hN, List.take_length])
  rw [hN] at hn ⊢
  clear hr hok hN hl
  go_enter Try.func7, Try.ntmps7
  go_wp2
  go_loopw [3, 4] (fun o i wr => ∃ (k : Nat) (gs : List Fc), k ≤ N ∧ i = .int .i64 k ∧ gs.length = k ∧ wr.ownsRow w.heap.size 54 2 o k (fcs gs) ∧ Hid (∀ g ∈ gs, RfT wr g) ∧ Hid (gs.map Fc.plain = (l.take k).map Fc.plain) ∧ Below w.heap.size w wr) (fun _ i _ => N - (intOf i).toNat)
  case atStart => exact ⟨0, [], by omega, rfl, rfl, World.ownsRow_nil _ _ _ _, Lib.hid (by simp), Lib.hid (by simp), Below.refl _ _⟩
  case round =>
    obtain ⟨k, gs, hk, rfl, hgl, ho, HRT, HPL, hbl⟩ := hrel
    by_cases h1 : k < N
    · have h1' : (k : Int) < (N : Int) := by omega
      have hkl : k < l.length := by rw [HN.out]; exact h1
      obtain ⟨b1, o1, rfl, hbb, c0, c1⟩ := (HR.out.keep hbl).fc k hkl
      have HOK1 := Lib.hid (HOF.out l[k] (List.getElem_mem hkl) wr hbl)
      have HPS : Hid ((l.take (k + 1)).map Fc.plain = (l.take k).map Fc.plain ++ [l[k].plain]) := Lib.hid (by
        rw [List.take_succ_eq_append_getElem hkl, List.map_append, List.map_singleton])
      generalize l[k] = f at *
      obtain ⟨rs, ra, rc, ls, aa, ac⟩ := f
      dsimp only [Fc.val, Fc.rval, Fc.aval] at c0 c1 HOK1
      have hs := hbl.size
      go_wp2_with fail
      refine HOK1.out.mono ?_
      rintro e w1 ⟨g, rfl, hg1, hg2, hg3, hx1⟩
      have hb1 := hbl.trans (hx1.mono hs)
      have ho1 := ho.below hx1
      have HR1 : Hid (∀ x ∈ gs ++ [g], RfT w1 x) := Lib.hid (fun x hx => by
        rcases List.mem_append.1 hx with hx | hx
        · exact (HRT.out x hx).keep hx1
        · rw [List.mem_singleton.1 hx]; exact hg1)
      have HPL2 : Hid ((gs ++ [g]).map Fc.plain = (l.take (k + 1)).map Fc.plain) := Lib.hid (by
        rw [HPS.out, List.map_append, HPL.out]
        congr 1
        simp only [List.map_cons, List.map_nil, Fc.plain, hg2, hg3])
      have HFC : Hid (fcs gs ++ [.slice g.ra g.rs.length g.rc, .slice g.aa g.ls.length g.ac] = fcs (gs ++ [g])) := Lib.hid (by
        rw [fcs_snoc]; rfl)
      have hgl2 : (gs ++ [g]).length = k + 1 := by simp [hgl]
      clear ho hx1 HRT HPL HPS hg1 hg2 hg3 HOK1
      generalize gs ++ [g] = gs2 at *
      obtain ⟨grs, gra, grc, gls, gaa, gac⟩ := g
      dsimp only at HFC ⊢
      generalize grs.length = GL at *
      generalize gls.length = GA at *
      go_wp2_with (at_builtin; go_must (refine wpList_appLit' w hb1 rfl (.tmp 11) (.tmp 17) 24 rfl 54 (.agg #[.slice none 0 0, .slice none 0 0]) 2 48 Try.underlying24 Try.infoRF rfl (by decide) (by decide) u3 k (fcs gs) rfl ho1 1 1 [.slice gra GL grc, .slice gaa GA gac] _ rfl rfl (by simp [Value.oneCell']) (by omega) ?_); intro v9 W9 ho9 hg9 hb9; have HKP := Lib.hid (KeepS.of_row ho1 refS_face hg9); clear hg9 ho1)
      rw [HFC.out] at ho9
      exact ⟨⟨k + 1, gs2, by omega, by go_num, hgl2, ho9, Lib.hid (fun x hx => (HR1.out x hx).keepS HKP.out), HPL2, hb9⟩, by simp [intOf]; omega⟩
    · obtain rfl : k = N := by omega
      have HPL2 : Hid (gs.map Fc.plain = l.map Fc.plain) := Lib.hid (by rw [HPL.out, HTA.out])
      have HO : Hid (wr.ownsRow w.heap.size 54 2 u3 gs.length (fcs gs)) := Lib.hid (by rw [hgl]; exact ho)
      go_wp2
      go_ret
      exact ⟨gs, u3, rfl, HO.out, HRT.out, HPL2.out, hbl⟩
end Go.Proofs.Ytebplobagmjfeaa
